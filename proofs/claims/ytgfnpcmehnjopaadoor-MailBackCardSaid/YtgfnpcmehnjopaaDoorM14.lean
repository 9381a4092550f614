/- Parts of the proofs, joined: MalT, TxnV, TxnL, TxsL, MalB, WeqS, MalS, MalA, FrmA. -/
import Derived.Test.YtgfnpcmehnjopaaDoorM2
import Derived.Test.YtgfnpcmehnjopaaDoorM7
import Derived.Test.YtgfnpcmehnjopaaDoorM8
import Derived.Test.YtgfnpcmehnjopaaDoorM9
import Derived.Test.YtgfnpcmehnjopaaDoorM10
import Derived.Test.YtgfnpcmehnjopaaDoorM13
section
namespace Go.Proofs.YtgfnpcmehnjopaaDoor
open Go Go.RowKit
set_option linter.unusedVariables false
set_option linter.unusedSimpArgs false
variable {K : Nat → Obj → Prop}
set_option maxRecDepth 100000 in
set_option maxHeartbeats 4000000 in
theorem nums2_x (b : List UInt8) (hl : b.length ≤ 1000000000) {p p2 : UInt64} {m m2 : Nat} {er er2 : Int} (ht : tk b = (p, m, er)) (ht2 : tk (b.drop m) = (p2, m2, er2)) (k o f t : Int) (l : List Tx) : Sp Tryd.prog K 121 [.sl 1 (bs b), .hs true 1 1 0 2] [.cells (msgC ⟨k, o, f, t, l⟩), .cells [.ptr 0 2, .ptr 0 3]] fun u hh =>
    u = .sc (.int .i64 (if er ≠ 0 then er else if 4611686018427387903 < p.toNat then 1 else if er2 ≠ 0 then er2 else if 4611686018427387903 < p2.toNat then 1 else if m + m2 < b.length then 3 else 0)) ∧
    hh = [.cells (msgC ⟨k, o, if er = 0 ∧ p.toNat ≤ 4611686018427387903 then p.toNat else f, if er = 0 ∧ p.toNat ≤ 4611686018427387903 ∧ er2 = 0 ∧ p2.toNat ≤ 4611686018427387903 then p2.toNat else t, l⟩), .cells [.ptr 0 2, .ptr 0 3]] := by
  have hm := tk_le b
  have hm2 := tk_le (b.drop m)
  rw [ht] at hm
  rw [ht2, List.length_drop] at hm2
  dsimp only at hm hm2
  have ct := fun h => vtake_s (K := K) ht hl h
  have ct2 := fun h => vtake_s (K := K) ht2 (by rw [List.length_drop]; omega) h
  clear ht ht2
  have hdl : (b.drop m).length = b.length - m := List.length_drop
  have hdl2 : ((b.drop m).drop m2).length = b.length - m - m2 := by rw [List.length_drop, List.length_drop]
  refine Sp.of_bodyE Tryd.func121 rfl ?_
  intro Q hQ
  simp only [List.replicate, List.length_cons, List.length_nil, Tryd.ntmps121, Nat.reduceAdd, Nat.reduceSub, List.cons_append, List.nil_append, go_sem]
  have hz : True := trivial
  have hy := yieldedV_eq
  have hL := True.intro
  repeat' (first | (refine WPV.seqK ?_; intro N hN) | (refine And.intro (hO _ (by kernel_rfl)) ?_; clear hO) | refine gA ?_ | (refine gR (M := noM) ?_; intro N hN ops hy) | (refine gDG (M := noM) ?_; intro N hN ops hy hO) | (refine WPV.condK ?_; intro A hA B hB) | (refine here ?_; refine sS ?_) | refine Both.mk ?_ ?_ | ((with_reducible refine CallO.gd 77 ?_); first | refine CallO.toB Tryd.call77 (ct _) ?_ | refine CallO.toB Tryd.call77 (ct2 _) ?_) | ((with_reducible refine CallP.gd 77 ?_); first | refine CallP.toB Tryd.call77 (ct _) ?_ | refine CallP.toB Tryd.call77 (ct2 _) ?_) | (refine hN _ ?_; try clear hN N; try clear hy ops) | (refine hA ?_; clear hA A hB B; try simp only [hz]) | (refine hB ?_; clear hA A hB B; try simp only [hz]) | (refine gG ?_ ?_ <;> (intro hz; have h := nm hz; try (exfalso; omega)) <;> (have hz := nz hz; try subst hz)) | (rw [if_pos (show _ ∧ _ from ⟨by omega, by omega⟩)]; refine sS ?_) | refine gT ?_ | (clear hN N))
  refine loopV ?_
  have hz : True := trivial
  have hy := yieldedV_eq
  have hL := True.intro
  repeat' (first | (refine WPV.seqK ?_; intro N hN) | (refine And.intro (hO _ (by kernel_rfl)) ?_; clear hO) | refine gA ?_ | (refine gR (M := noM) ?_; intro N hN ops hy) | (refine gDG (M := noM) ?_; intro N hN ops hy hO) | (refine WPV.condK ?_; intro A hA B hB) | (refine here ?_; refine sS ?_) | refine Both.mk ?_ ?_ | ((with_reducible refine CallO.gd 77 ?_); first | refine CallO.toB Tryd.call77 (ct _) ?_ | refine CallO.toB Tryd.call77 (ct2 _) ?_) | ((with_reducible refine CallP.gd 77 ?_); first | refine CallP.toB Tryd.call77 (ct _) ?_ | refine CallP.toB Tryd.call77 (ct2 _) ?_) | (refine hN _ ?_; try clear hN N; try clear hy ops) | (refine hA ?_; clear hA A hB B; try simp only [hz]) | (refine hB ?_; clear hA A hB B; try simp only [hz]) | (refine gG ?_ ?_ <;> (intro hz; have h := nm hz; try (exfalso; omega)) <;> (have hz := nz hz; try subst hz)) | (rw [if_pos (show _ ∧ _ from ⟨by omega, by omega⟩)]; refine sS ?_) | refine gT ?_ | (clear hN N))
  all_goals (try (first | exact retZ hQ Tryd.results121 (Desc.re [some 0, some 1] rfl) | exact retZN hQ Tryd.results121 (Desc.re [some 0, some 1] rfl)))
  refine loopV ?_
  have hz : True := trivial
  have hy := yieldedV_eq
  have hL := True.intro
  repeat' (first | (refine WPV.seqK ?_; intro N hN) | (refine And.intro (hO _ (by kernel_rfl)) ?_; clear hO) | refine gA ?_ | (refine gR (M := noM) ?_; intro N hN ops hy) | (refine gDG (M := noM) ?_; intro N hN ops hy hO) | (refine WPV.condK ?_; intro A hA B hB) | (refine here ?_; refine sS ?_) | refine Both.mk ?_ ?_ | ((with_reducible refine CallO.gd 77 ?_); first | refine CallO.toB Tryd.call77 (ct _) ?_ | refine CallO.toB Tryd.call77 (ct2 _) ?_) | ((with_reducible refine CallP.gd 77 ?_); first | refine CallP.toB Tryd.call77 (ct _) ?_ | refine CallP.toB Tryd.call77 (ct2 _) ?_) | (refine hN _ ?_; try clear hN N; try clear hy ops) | (refine hA ?_; clear hA A hB B; try simp only [hz]) | (refine hB ?_; clear hA A hB B; try simp only [hz]) | (refine gG ?_ ?_ <;> (intro hz; have h := nm hz; try (exfalso; omega)) <;> (have hz := nz hz; try subst hz)) | (rw [if_pos (show _ ∧ _ from ⟨by omega, by omega⟩)]; refine sS ?_) | refine gT ?_ | (clear hN N))
  all_goals (try (first | exact retZ hQ Tryd.results121 (Desc.re [some 0, some 1] rfl) | exact retZN hQ Tryd.results121 (Desc.re [some 0, some 1] rfl)))
  refine loopV ?_
  have hz : True := trivial
  have hy := yieldedV_eq
  have hL := True.intro
  repeat' (first | (refine WPV.seqK ?_; intro N hN) | (refine And.intro (hO _ (by kernel_rfl)) ?_; clear hO) | refine gA ?_ | (refine gR (M := noM) ?_; intro N hN ops hy) | (refine gDG (M := noM) ?_; intro N hN ops hy hO) | (refine WPV.condK ?_; intro A hA B hB) | (refine here ?_; refine sS ?_) | refine Both.mk ?_ ?_ | ((with_reducible refine CallO.gd 77 ?_); first | refine CallO.toB Tryd.call77 (ct _) ?_ | refine CallO.toB Tryd.call77 (ct2 _) ?_) | ((with_reducible refine CallP.gd 77 ?_); first | refine CallP.toB Tryd.call77 (ct _) ?_ | refine CallP.toB Tryd.call77 (ct2 _) ?_) | (refine hN _ ?_; try clear hN N; try clear hy ops) | (refine hA ?_; clear hA A hB B; try simp only [hz]) | (refine hB ?_; clear hA A hB B; try simp only [hz]) | (refine gG ?_ ?_ <;> (intro hz; have h := nm hz; try (exfalso; omega)) <;> (have hz := nz hz; try subst hz)) | (rw [if_pos (show _ ∧ _ from ⟨by omega, by omega⟩)]; refine sS ?_) | refine gT ?_ | (clear hN N))
  all_goals (first | exact retZ hQ Tryd.results121 (Desc.re [some 0, some 1] rfl) | exact retZN hQ Tryd.results121 (Desc.re [some 0, some 1] rfl))
set_option maxRecDepth 100000 in
set_option maxHeartbeats 1000000 in
theorem ktake1_s (b : List UInt8) (hl : b.length ≤ 1000000) (k o f t : Int) (l : List Tx) : Sp Tryd.prog K 116 [.sl 1 (bs b), .ptr 0 0] [.cells (msgC ⟨k, o, f, t, l⟩)] fun u hh => u = .sc (.int .i64 (unpackF b).2) ∧ hh = [.cells (msgC ⟨k, o, f, t, (unpackF b).1⟩)] := by
  have cu := unpack_s (K := K) b hl
  obtain ⟨l2, e, hu⟩ : ∃ l e, unpackF b = (l, e) := ⟨_, _, rfl⟩
  rw [hu] at cu ⊢
  dsimp only at cu ⊢
  clear hu
  refine Sp.of_bodyE Tryd.func116 rfl ?_
  intro Q hQ
  simp only [List.replicate, List.length_cons, List.length_nil, Tryd.ntmps116, Nat.reduceAdd, Nat.reduceSub, List.cons_append, List.nil_append, go_sem]
  have hz : True := trivial
  have hy := yieldedV_eq
  have hL := True.intro
  repeat' (first | (refine WPV.seqK ?_; intro N hN) | (refine And.intro (hO _ (by kernel_rfl)) ?_; clear hO) | refine gA ?_ | (refine gR (M := noM) ?_; intro N hN ops hy) | (refine gDG (M := noM) ?_; intro N hN ops hy hO) | (refine WPV.condK ?_; intro A hA B hB) | (refine here ?_; refine sS ?_) | refine Both.mk ?_ ?_ | ((with_reducible refine CallO.gd 117 ?_); refine CallO.frB [] Tryd.call117 (cu) ?_) | (refine hN _ ?_; try clear hN N; try clear hy ops) | (refine hA ?_; clear hA A hB B; try simp only [hz]) | (refine hB ?_; clear hA A hB B; try simp only [hz]) | (refine gG ?_ ?_ <;> (intro hz; have h := nm hz; try (exfalso; omega)) <;> (have hz := nz hz; try subst hz)) | (rw [if_pos (show _ ∧ _ from ⟨by omega, by omega⟩)]; refine sS ?_) | refine gT ?_ | (clear hN N))
  all_goals (first | exact retZ hQ Tryd.results116 (Desc.re [some 0] rfl) | exact retZN hQ Tryd.results116 (Desc.re [some 0] rfl))
set_option maxRecDepth 100000 in
set_option maxHeartbeats 1000000 in
theorem ktake2_s (b : List UInt8) (hl : b.length ≤ 1000000) {n : Nat} {r : List UInt8} {e : Int} (h1 : num1 b = (n, r, e)) (k o f t : Int) (l : List Tx) : Sp Tryd.prog K 120 [.sl 1 (bs b), .ptr 0 0] [.cells (msgC ⟨k, o, f, t, l⟩)] fun u hh => u = .sc (.int .i64 (if e ≠ 0 then e else if r ≠ [] then 3 else 0)) ∧ hh = [.cells (msgC ⟨k, o, f, if e ≠ 0 then t else n, l⟩)] := by
  have cn := nums1_s (K := K) b (by omega) h1 k o f t l
  generalize (if e ≠ 0 then e else if r ≠ [] then 3 else 0) = q at *
  generalize (if e ≠ 0 then t else (n : Int)) = t2 at *
  refine Sp.of_bodyE Tryd.func120 rfl ?_
  intro Q hQ
  simp only [List.replicate, List.length_cons, List.length_nil, Tryd.ntmps120, Nat.reduceAdd, Nat.reduceSub, List.cons_append, List.nil_append, go_sem]
  have hz : True := trivial
  have hy := yieldedV_eq
  have hL := True.intro
  repeat' (first | (refine WPV.seqK ?_; intro N hN) | (refine And.intro (hO _ (by kernel_rfl)) ?_; clear hO) | refine gA ?_ | (refine gR (M := inM [204]) ?_; intro N hN ops hy) | (refine gDG (M := inM [204]) ?_; intro N hN ops hy hO) | (refine WPV.condK ?_; intro A hA B hB) | (refine here ?_; refine sS ?_) | refine Both.mk ?_ ?_ | ((with_reducible refine CallO.gd 121 ?_); refine CallO.frB [0, 1] Tryd.call121 (cn) ?_) | ((with_reducible refine CallP.gd 121 ?_); refine CallP.frB [0, 1] 0 Tryd.call121 (cn) ?_) | (refine hN _ ?_; try clear hN N; try clear hy ops) | (refine hA ?_; clear hA A hB B; try simp only [hz]) | (refine hB ?_; clear hA A hB B; try simp only [hz]) | (refine gG ?_ ?_ <;> (intro hz; have h := nm hz; try (exfalso; omega)) <;> (have hz := nz hz; try subst hz)) | (rw [if_pos (show _ ∧ _ from ⟨by omega, by omega⟩)]; refine sS ?_) | refine gT ?_ | (clear hN N))
  all_goals (first | exact retZ hQ Tryd.results120 (Desc.re [some 0] rfl) | exact retZN hQ Tryd.results120 (Desc.re [some 0] rfl))
theorem num1_of {b : List UInt8} {p : UInt64} {m : Nat} {er : Int} (h : tk b = (p, m, er)) : num1 b = if er ≠ 0 then (0, b, er) else if 4611686018427387903 < p.toNat then (0, b, 1) else (p.toNat, b.drop m, 0) := by unfold num1; rw [h]
set_option maxRecDepth 100000 in
set_option maxHeartbeats 1000000 in
theorem ktake3_s (b : List UInt8) (hl : b.length ≤ 1000000) (k o f t : Int) (l : List Tx) : ∃ f2 t2, Sp Tryd.prog K 124 [.sl 1 (bs b), .ptr 0 0] [.cells (msgC ⟨k, o, f, t, l⟩)] (fun u hh => u = .sc (.int .i64 (if (num1 b).2.2 ≠ 0 then (num1 b).2.2 else if (num1 (num1 b).2.1).2.2 ≠ 0 then (num1 (num1 b).2.1).2.2 else if (num1 (num1 b).2.1).2.1 ≠ [] then 3 else 0)) ∧ hh = [.cells (msgC ⟨k, o, f2, t2, l⟩)]) ∧
    ((num1 b).2.2 = 0 → (num1 (num1 b).2.1).2.2 = 0 → f2 = (num1 b).1 ∧ t2 = (num1 (num1 b).2.1).1) := by
  obtain ⟨p, m, er, ht⟩ : ∃ p m er, tk b = (p, m, er) := ⟨_, _, _, rfl⟩
  obtain ⟨p2, m2, er2, ht2⟩ : ∃ p2 m2 er2, tk (b.drop m) = (p2, m2, er2) := ⟨_, _, _, rfl⟩
  have cn := nums2_x (K := K) b (by omega) ht ht2 k o f t l
  have h1 := num1_of ht
  have h2 := num1_of ht2
  have hm := tk_le b
  have hm2 := tk_le (b.drop m)
  rw [ht] at hm
  rw [ht2, List.length_drop] at hm2
  dsimp only at hm hm2
  have hlen : ((b.drop m).drop m2).length = b.length - (m + m2) := by rw [List.drop_drop, List.length_drop]
  have hp := fun (h : 0 < b.length - (m + m2)) => List.length_pos_iff.1 (by rw [hlen]; exact h : 0 < ((b.drop m).drop m2).length)
  have hz := fun (h : b.length - (m + m2) = 0) => List.length_eq_zero_iff.1 (by rw [hlen]; exact h : ((b.drop m).drop m2).length = 0)
  have eE : (if er ≠ 0 then er else if 4611686018427387903 < p.toNat then (1 : Int) else if er2 ≠ 0 then er2 else if 4611686018427387903 < p2.toNat then 1 else if m + m2 < b.length then 3 else 0) = (if (num1 b).2.2 ≠ 0 then (num1 b).2.2 else if (num1 (num1 b).2.1).2.2 ≠ 0 then (num1 (num1 b).2.1).2.2 else if (num1 (num1 b).2.1).2.1 ≠ [] then 3 else 0) ∧
      ((num1 b).2.2 = 0 → (num1 (num1 b).2.1).2.2 = 0 → (er = 0 ∧ p.toNat ≤ 4611686018427387903 ∧ er2 = 0 ∧ p2.toNat ≤ 4611686018427387903) ∧ (num1 b).1 = p.toNat ∧ (num1 (num1 b).2.1).1 = p2.toNat) := by
    by_cases c1 : er ≠ 0
    · rw [if_pos c1] at h1
      rw [h1]
      exact ⟨by dsimp only; rw [if_pos c1, if_pos c1], fun h => absurd h c1⟩
    rw [if_neg c1] at h1
    by_cases c2 : 4611686018427387903 < p.toNat
    · rw [if_pos c2] at h1
      rw [h1]
      exact ⟨by dsimp only; rw [if_neg c1, if_pos c2, if_pos (show (1 : Int) ≠ 0 by decide)], fun h => absurd h (show ¬ (1 : Int) = 0 by decide)⟩
    rw [if_neg c2] at h1
    rw [h1]
    dsimp only
    rw [if_neg c1, if_neg c2]
    by_cases c3 : er2 ≠ 0
    · rw [if_pos c3] at h2
      rw [h2]
      exact ⟨by dsimp only; rw [if_pos c3, if_neg (by simp), if_pos c3], fun _ h => absurd h c3⟩
    rw [if_neg c3] at h2
    by_cases c4 : 4611686018427387903 < p2.toNat
    · rw [if_pos c4] at h2
      rw [h2]
      exact ⟨by dsimp only; rw [if_neg c3, if_pos c4, if_neg (by simp), if_pos (show (1 : Int) ≠ 0 by decide)], fun _ h => absurd h (show ¬ (1 : Int) = 0 by decide)⟩
    rw [if_neg c4] at h2
    rw [h2]
    dsimp only
    refine ⟨?_, fun _ _ => ⟨⟨Decidable.not_not.1 c1, by omega, Decidable.not_not.1 c3, by omega⟩, rfl, rfl⟩⟩
    rw [if_neg c3, if_neg c4]
    simp only [ne_eq, not_true_eq_false, if_false]
    by_cases c5 : m + m2 < b.length
    · rw [if_pos c5, if_pos (hp (by omega))]
    · rw [if_neg c5, if_neg (by rw [hz (by omega)]; simp)]
  obtain ⟨e1, e2⟩ := eE
  rw [e1] at cn
  have e3 : ∀ f2 t2 : Int, (if er = 0 ∧ p.toNat ≤ 4611686018427387903 then (p.toNat : Int) else f) = f2 → (if er = 0 ∧ p.toNat ≤ 4611686018427387903 ∧ er2 = 0 ∧ p2.toNat ≤ 4611686018427387903 then (p2.toNat : Int) else t) = t2 → (num1 b).2.2 = 0 → (num1 (num1 b).2.1).2.2 = 0 → f2 = (num1 b).1 ∧ t2 = (num1 (num1 b).2.1).1 := fun f2 t2 h1 h2 g1 g2 => by
    obtain ⟨a1, a2, a3⟩ := e2 g1 g2
    rw [if_pos ⟨a1.1, a1.2.1⟩] at h1
    rw [if_pos a1] at h2
    rw [a2, a3]
    exact ⟨h1.symm, h2.symm⟩
  generalize hf2 : (if er = 0 ∧ p.toNat ≤ 4611686018427387903 then (p.toNat : Int) else f) = f2 at *
  generalize ht3 : (if er = 0 ∧ p.toNat ≤ 4611686018427387903 ∧ er2 = 0 ∧ p2.toNat ≤ 4611686018427387903 then (p2.toNat : Int) else t) = t2 at *
  refine ⟨f2, t2, ?_, e3 f2 t2 rfl rfl⟩
  clear e1 e2 e3 h1 h2 hp hz hlen hf2 ht3
  generalize (if (num1 b).2.2 ≠ 0 then (num1 b).2.2 else if (num1 (num1 b).2.1).2.2 ≠ 0 then (num1 (num1 b).2.1).2.2 else if (num1 (num1 b).2.1).2.1 ≠ [] then 3 else 0) = q at *
  refine Sp.of_bodyE Tryd.func124 rfl ?_
  intro Q hQ
  simp only [List.replicate, List.length_cons, List.length_nil, Tryd.ntmps124, Nat.reduceAdd, Nat.reduceSub, List.cons_append, List.nil_append, go_sem]
  have hz : True := trivial
  have hy := yieldedV_eq
  have hL := True.intro
  repeat' (first | (refine WPV.seqK ?_; intro N hN) | (refine And.intro (hO _ (by kernel_rfl)) ?_; clear hO) | refine gA ?_ | (refine gR (M := inM [204]) ?_; intro N hN ops hy) | (refine gDG (M := inM [204]) ?_; intro N hN ops hy hO) | (refine WPV.condK ?_; intro A hA B hB) | (refine here ?_; refine sS ?_) | refine Both.mk ?_ ?_ | ((with_reducible refine CallO.gd 121 ?_); refine CallO.frB [0, 1] Tryd.call121 (cn) ?_) | ((with_reducible refine CallP.gd 121 ?_); refine CallP.frB [0, 1] 0 Tryd.call121 (cn) ?_) | (refine hN _ ?_; try clear hN N; try clear hy ops) | (refine hA ?_; clear hA A hB B; try simp only [hz]) | (refine hB ?_; clear hA A hB B; try simp only [hz]) | (refine gG ?_ ?_ <;> (intro hz; have h := nm hz; try (exfalso; omega)) <;> (have hz := nz hz; try subst hz)) | (rw [if_pos (show _ ∧ _ from ⟨by omega, by omega⟩)]; refine sS ?_) | refine gT ?_ | (clear hN N))
  all_goals (first | exact retZ hQ Tryd.results124 (Desc.re [some 0] rfl) | exact retZN hQ Tryd.results124 (Desc.re [some 0] rfl))
theorem openF_len (b : List UInt8) : (openF b).1.length ≤ b.length := by
  unfold openF
  split
  · simp
  split
  · rw [List.length_take]; omega
  · simp
theorem Sp.wkHp {P : Program} {f : FuncId} {vs : List V} {h h0 : List Ho} {R : V → List Ho → Prop} (hw : WkH h h0) (hs : Sp P K f vs h0 R) : Sp P K f vs h R := by
  intro F φ w args hK hi hd
  refine hs F φ w args hK ⟨by rw [hi.len]; exact hw.len, fun i p o hp ho => ?_, hi.apart, hi.frB, hi.frO, hi.frK⟩ hd
  obtain ⟨o0, h1, h2⟩ := hw.ok i o ho
  exact h2 F φ w p (hi.ok i p o0 hp h1)
def KTk (K : Nat → Obj → Prop) (f : FuncId) (k vn : Nat) (r : List UInt8) : Prop := ∃ mm : Msg, Sp Tryd.prog K f [.sl 1 (bs r), .ptr 0 0] [.cells (msgC ⟨k, vn, 0, 0, []⟩)] (fun u hh => u = .sc (.int .i64 (mparts k vn r).2) ∧ hh = [.cells (msgC mm)]) ∧ ((mparts k vn r).2 = 0 → mm = (mparts k vn r).1)
theorem kt1 (vn : Nat) (r : List UInt8) (hl : r.length ≤ 1000000) : KTk K 116 1 vn r := by
  have ck := ktake1_s (K := K) r hl 1 vn 0 0 []
  unfold KTk
  rw [mparts1]
  exact ⟨_, ck, fun _ => rfl⟩
theorem kt2 (vn : Nat) (r : List UInt8) (hl : r.length ≤ 1000000) : KTk K 120 2 vn r := by
  obtain ⟨m1, r2, ee, hn1⟩ : ∃ n r' e, num1 r = (n, r', e) := ⟨_, _, _, rfl⟩
  have ck := ktake2_s (K := K) r hl hn1 2 vn 0 0 []
  unfold KTk
  rw [mparts2, hn1]
  dsimp only
  by_cases h1 : ee ≠ 0
  · rw [if_pos h1] at ck ⊢
    exact ⟨_, ck, fun h => absurd h h1⟩
  · rw [if_neg h1] at ck ⊢
    by_cases h2 : r2 ≠ []
    · rw [if_pos h2] at ck ⊢
      exact ⟨_, ck, fun h => absurd h (show ¬ (3 : Int) = 0 by decide)⟩
    · rw [if_neg h2] at ck ⊢
      rw [if_neg h1] at ck
      exact ⟨_, ck, fun _ => rfl⟩
theorem kt3 (vn : Nat) (r : List UInt8) (hl : r.length ≤ 1000000) : KTk K 124 3 vn r := by
  obtain ⟨f2, t2, ck, h⟩ := ktake3_s (K := K) r hl 3 vn 0 0 []
  unfold KTk
  rw [mparts3]
  by_cases h1 : (num1 r).2.2 ≠ 0
  · rw [if_pos h1] at ck ⊢
    exact ⟨_, ck, fun h => absurd h h1⟩
  rw [if_neg h1] at ck ⊢
  by_cases h2 : (num1 (num1 r).2.1).2.2 ≠ 0
  · rw [if_pos h2] at ck ⊢
    exact ⟨_, ck, fun h => absurd h h2⟩
  rw [if_neg h2] at ck ⊢
  obtain ⟨rfl, rfl⟩ := h (Decidable.not_not.1 h1) (Decidable.not_not.1 h2)
  by_cases h3 : (num1 (num1 r).2.1).2.1 ≠ []
  · rw [if_pos h3] at ck ⊢
    exact ⟨_, ck, fun h => absurd h (show ¬ (3 : Int) = 0 by decide)⟩
  · rw [if_neg h3] at ck ⊢
    exact ⟨_, ck, fun _ => rfl⟩
theorem mparts_bd {k o : Nat} {r : List UInt8} {m : Msg} (h : mparts k o r = (m, 0)) : m.l.length ≤ 4 ∧ ∀ t ∈ m.l, t.w.length ≤ 16 := by
  unfold mparts at h
  split at h
  · simp only [Prod.mk.injEq] at h
    obtain ⟨rfl, h⟩ := h
    obtain ⟨_, h1, h2⟩ := pack_unpack (b := r) (l := (unpackF r).1) (Prod.ext rfl h)
    exact ⟨h1, fun t ht => (check_ok (h2 t ht)).2.2.2.1⟩
  have e : m.l = [] := by
    repeat' split at h
    all_goals (simp only [Prod.mk.injEq] at h; rw [← h.1])
  rw [e]; simp
set_option maxRecDepth 100000 in
set_option maxHeartbeats 8000000 in
theorem mtake_s (hK : KT K) (b : List UInt8) (hl : b.length ≤ 1000000) : Sp Tryd.prog K 37 [.sl 1 (bs b)] [] fun u hh => u = .tup [msgV (mtake b).1, .sc (.int .i64 (mtake b).2)] ∧ hh = [] := by
  obtain ⟨p, e, ho⟩ : ∃ p e, openF b = (p, e) := ⟨_, _, rfl⟩
  have co := fun h => open_s hK b (by omega) h
  have hpl : p.length ≤ b.length := by
    have h := openF_len b
    rw [ho] at h; exact h
  rw [ho] at co
  dsimp only at co
  obtain ⟨u, n, e1, ht⟩ : ∃ u n e, tk p = (u, n, e) := ⟨_, _, _, rfl⟩
  obtain ⟨v, n2, e2, ht2⟩ : ∃ v n2 e2, tk (p.drop n) = (v, n2, e2) := ⟨_, _, _, rfl⟩
  have hm := tk_le p
  have hm2 := tk_le (p.drop n)
  rw [ht] at hm
  rw [ht2, List.length_drop] at hm2
  dsimp only at hm hm2
  have ct := fun h => vtake_s (K := K) ht (by omega) h
  have ct2 := fun h => vtake_s (K := K) ht2 (by rw [List.length_drop]; omega) h
  have hdl : (p.drop n).length = p.length - n := List.length_drop
  have hu64 := UInt64.toNat_lt u
  by_cases good : ¬ (e = 0 ∧ e1 = 0 ∧ (1 ≤ u.toNat ∧ u.toNat ≤ 3) ∧ e2 = 0 ∧ v.toNat < 3)
  · have e0 : mtake b = (.z, if e ≠ 0 then e else if e1 ≠ 0 then e1 else if u.toNat < 1 ∨ 3 < u.toNat then 3 else if e2 ≠ 0 then e2 else 9) := by
      unfold mtake
      rw [ho]
      dsimp only
      split
      · rfl
      unfold mread
      rw [ht]
      dsimp only
      split
      · rfl
      split
      · rfl
      rw [ht2]
      dsimp only
      split
      · rfl
      rw [if_pos (by omega)]
    rw [e0]
    clear e0 ht ht2 ho
    have ck := True.intro
    have cc := True.intro
    refine Sp.of_bodyE Tryd.func37 rfl ?_
    intro Q hQ
    simp only [List.replicate, List.length_cons, List.length_nil, Tryd.ntmps37, Nat.reduceAdd, Nat.reduceSub, List.cons_append, List.nil_append, go_sem]
    have hz : True := trivial
    have hy := yieldedV_eq
    have hL := True.intro
    repeat' (first | (refine WPV.seqK ?_; intro N hN) | (refine And.intro (hO _ (by kernel_rfl)) ?_; clear hO) | refine gA ?_ | (refine gR (M := noM) ?_; intro N hN ops hy) | (refine gDG (M := noM) ?_; intro N hN ops hy hO) | (refine WPV.condK ?_; intro A hA B hB) | (refine here ?_; refine sS ?_) | refine Both.mk ?_ ?_ | ((with_reducible refine CallO.gd 76 ?_); refine CallO.toB Tryd.call76 (co _) ?_) | ((with_reducible refine CallO.gd 77 ?_); first | refine CallO.toB Tryd.call77 (ct _) ?_ | refine CallO.toB Tryd.call77 (ct2 _) ?_) | ((with_reducible refine CallO.gd 78 ?_); refine CallO.toB Tryd.call78 (kinds_s _) ?_) | ((with_reducible refine CallO.gd 116 ?_); refine CallO.frB [1] Tryd.call116 (ck) ?_) | ((with_reducible refine CallO.gd 120 ?_); refine CallO.frB [1] Tryd.call120 (ck) ?_) | ((with_reducible refine CallO.gd 124 ?_); refine CallO.frB [1] Tryd.call124 (ck) ?_) | ((with_reducible refine CallO.gd 39 ?_); refine CallO.frB [] Tryd.call39 (cc) ?_) | ((with_reducible refine CallP.gd 76 ?_); refine CallP.toB Tryd.call76 (co _) ?_) | ((with_reducible refine CallP.gd 77 ?_); first | refine CallP.toB Tryd.call77 (ct _) ?_ | refine CallP.toB Tryd.call77 (ct2 _) ?_) | ((with_reducible refine CallP.gd 78 ?_); refine CallP.toB Tryd.call78 (kinds_s _) ?_) | ((with_reducible refine CallP.gd 116 ?_); refine CallP.frB [1] 0 Tryd.call116 (ck) ?_) | ((with_reducible refine CallP.gd 120 ?_); refine CallP.frB [1] 0 Tryd.call120 (ck) ?_) | ((with_reducible refine CallP.gd 124 ?_); refine CallP.frB [1] 0 Tryd.call124 (ck) ?_) | (refine hN _ ?_; try clear hN N; try clear hy ops) | (refine hA ?_; clear hA A hB B; try simp only [hz]) | (refine hB ?_; clear hA A hB B; try simp only [hz]) | (refine gG ?_ ?_ <;> (intro hz; have h := nm hz; try (exfalso; omega)) <;> (have hz := nz hz; try subst hz)) | (rw [if_pos (show _ ∧ _ from ⟨by omega, by omega⟩)]; refine sS ?_) | refine gT ?_ | (clear hN N))
    all_goals (try unfold Msg.z at hQ)
    all_goals (first | exact retZ hQ Tryd.results37 (Desc.re [] rfl) | exact retZN hQ Tryd.results37 (Desc.re [] rfl))
  obtain ⟨rfl, rfl, hu, rfl, hv⟩ := Decidable.not_not.1 good
  obtain ⟨r, hr⟩ : ∃ r, (p.drop n).drop n2 = r := ⟨_, rfl⟩
  have hrl : r.length ≤ b.length := by rw [← hr, List.length_drop]; omega
  have e0 : mtake b = if (mparts u.toNat v.toNat r).2 ≠ 0 then (.z, (mparts u.toNat v.toNat r).2) else if mchk (mparts u.toNat v.toNat r).1 ≠ 0 then (.z, mchk (mparts u.toNat v.toNat r).1) else ((mparts u.toNat v.toNat r).1, 0) := by
    unfold mtake; rw [ho]; dsimp only; rw [if_neg (by simp), mread_of ht rfl hu ht2 hr hv]
  rw [e0]
  clear e0 ho ht ht2 good
  generalize u.toNat = un at *
  generalize v.toNat = vn at *
  have hbd := fun m h => mparts_bd (k := un) (o := vn) (r := r) (m := m) h
  obtain ⟨mp, ee, hmp⟩ : ∃ m e, mparts un vn r = (m, e) := ⟨_, _, rfl⟩
  rcases (show un = 1 ∨ un = 2 ∨ un = 3 by omega) with rfl | rfl | rfl
  · skip
    obtain ⟨mm, ck, hmm⟩ := kt1 (K := K) vn r (by omega)
    rw [show ((1 : Nat) : Int) = 1 from rfl] at ck ct
    have ck := Sp.wkHp (h := [.cells [.sc (.int .i64 1), .sc (.int .i64 (vn : Int)), .sc (.int .i64 0), .sc (.int .i64 0), .sc (.slice none 0 0)]]) (WkH.cells (Wk.same (Wk.same (Wk.same (Wk.same (Wk.null Wk.nil))))) WkH.nil) ck
    rw [hmp] at ck hmm ⊢
    dsimp only at ck hmm ⊢
    by_cases hee : ee ≠ 0
    · rw [if_pos hee]
      have cc := True.intro
      clear hmp hbd hmm
      obtain ⟨zk, zo, zf, zt, zl⟩ := mm
      refine Sp.of_bodyE Tryd.func37 rfl ?_
      intro Q hQ
      simp only [List.replicate, List.length_cons, List.length_nil, Tryd.ntmps37, Nat.reduceAdd, Nat.reduceSub, List.cons_append, List.nil_append, go_sem]
      have hz : True := trivial
      have hy := yieldedV_eq
      have hL := @hr
      repeat' (first | (refine WPV.seqK ?_; intro N hN) | (refine And.intro (hO _ (by kernel_rfl)) ?_; clear hO) | refine gA ?_ | (refine gR (M := noM) ?_; intro N hN ops hy) | (refine gDG (M := noM) ?_; intro N hN ops hy hO) | (refine WPV.condK ?_; intro A hA B hB) | (refine here ?_; refine sS ?_) | refine Both.mk ?_ ?_ | ((with_reducible refine CallO.gd 76 ?_); refine CallO.toB Tryd.call76 (co _) ?_) | ((with_reducible refine CallO.gd 77 ?_); first | refine CallO.toB Tryd.call77 (ct _) ?_ | refine CallO.toB Tryd.call77 (ct2 _) ?_) | ((with_reducible refine CallO.gd 78 ?_); refine CallO.toB Tryd.call78 (kinds_s _) ?_) | ((with_reducible refine CallO.gd 116 ?_); refine CallO.frB [1] Tryd.call116 (ck) ?_) | ((with_reducible refine CallO.gd 120 ?_); refine CallO.frB [1] Tryd.call120 (ck) ?_) | ((with_reducible refine CallO.gd 124 ?_); refine CallO.frB [1] Tryd.call124 (ck) ?_) | ((with_reducible refine CallO.gd 39 ?_); refine CallO.frB [] Tryd.call39 (cc) ?_) | ((with_reducible refine CallP.gd 76 ?_); refine CallP.toB Tryd.call76 (co _) ?_) | ((with_reducible refine CallP.gd 77 ?_); first | refine CallP.toB Tryd.call77 (ct _) ?_ | refine CallP.toB Tryd.call77 (ct2 _) ?_) | ((with_reducible refine CallP.gd 78 ?_); refine CallP.toB Tryd.call78 (kinds_s _) ?_) | ((with_reducible refine CallP.gd 116 ?_); refine CallP.frB [1] 0 Tryd.call116 (ck) ?_) | ((with_reducible refine CallP.gd 120 ?_); refine CallP.frB [1] 0 Tryd.call120 (ck) ?_) | ((with_reducible refine CallP.gd 124 ?_); refine CallP.frB [1] 0 Tryd.call124 (ck) ?_) | (refine hN _ ?_; try clear hN N; try clear hy ops) | (refine hA ?_; clear hA A hB B; try simp only [hz]) | (refine hB ?_; clear hA A hB B; try simp only [hz]) | (refine gG ?_ ?_ <;> (intro hz; have h := nm hz; try (exfalso; omega)) <;> (have hz := nz hz; try subst hz)) | (rw [if_pos (show _ ∧ _ from ⟨by omega, by omega⟩)]; refine sS ?_) | refine gT ?_ | (clear hN N))
      all_goals (try unfold Msg.z at hQ)
      all_goals (first | exact retZ hQ Tryd.results37 (Desc.re [] rfl) | exact retZN hQ Tryd.results37 (Desc.re [] rfl))
    · rw [if_neg hee]
      have hee := Decidable.not_not.1 hee
      subst hee
      have hmm := hmm rfl
      subst hmm
      obtain ⟨b4, bw⟩ := hbd _ hmp
      have cc := mchk_s (K := K) mm (by omega) (fun t ht => by have := bw t ht; omega)
      clear hmp hbd bw
      generalize mchk mm = q at *
      obtain ⟨zk, zo, zf, zt, zl⟩ := mm
      dsimp only at b4
      by_cases hq : q ≠ 0
      · rw [if_pos hq]
        refine Sp.of_bodyE Tryd.func37 rfl ?_
        intro Q hQ
        simp only [List.replicate, List.length_cons, List.length_nil, Tryd.ntmps37, Nat.reduceAdd, Nat.reduceSub, List.cons_append, List.nil_append, go_sem]
        have hz : True := trivial
        have hy := yieldedV_eq
        have hL := @hr
        repeat' (first | (refine WPV.seqK ?_; intro N hN) | (refine And.intro (hO _ (by kernel_rfl)) ?_; clear hO) | refine gA ?_ | (refine gR (M := noM) ?_; intro N hN ops hy) | (refine gDG (M := noM) ?_; intro N hN ops hy hO) | (refine WPV.condK ?_; intro A hA B hB) | (refine here ?_; refine sS ?_) | refine Both.mk ?_ ?_ | ((with_reducible refine CallO.gd 76 ?_); refine CallO.toB Tryd.call76 (co _) ?_) | ((with_reducible refine CallO.gd 77 ?_); first | refine CallO.toB Tryd.call77 (ct _) ?_ | refine CallO.toB Tryd.call77 (ct2 _) ?_) | ((with_reducible refine CallO.gd 78 ?_); refine CallO.toB Tryd.call78 (kinds_s _) ?_) | ((with_reducible refine CallO.gd 116 ?_); refine CallO.frB [1] Tryd.call116 (ck) ?_) | ((with_reducible refine CallO.gd 120 ?_); refine CallO.frB [1] Tryd.call120 (ck) ?_) | ((with_reducible refine CallO.gd 124 ?_); refine CallO.frB [1] Tryd.call124 (ck) ?_) | ((with_reducible refine CallO.gd 39 ?_); refine CallO.frB [] Tryd.call39 (cc) ?_) | ((with_reducible refine CallP.gd 76 ?_); refine CallP.toB Tryd.call76 (co _) ?_) | ((with_reducible refine CallP.gd 77 ?_); first | refine CallP.toB Tryd.call77 (ct _) ?_ | refine CallP.toB Tryd.call77 (ct2 _) ?_) | ((with_reducible refine CallP.gd 78 ?_); refine CallP.toB Tryd.call78 (kinds_s _) ?_) | ((with_reducible refine CallP.gd 116 ?_); refine CallP.frB [1] 0 Tryd.call116 (ck) ?_) | ((with_reducible refine CallP.gd 120 ?_); refine CallP.frB [1] 0 Tryd.call120 (ck) ?_) | ((with_reducible refine CallP.gd 124 ?_); refine CallP.frB [1] 0 Tryd.call124 (ck) ?_) | (refine hN _ ?_; try clear hN N; try clear hy ops) | (refine hA ?_; clear hA A hB B; try simp only [hz]) | (refine hB ?_; clear hA A hB B; try simp only [hz]) | (refine gG ?_ ?_ <;> (intro hz; have h := nm hz; try (exfalso; omega)) <;> (have hz := nz hz; try subst hz)) | (rw [if_pos (show _ ∧ _ from ⟨by omega, by omega⟩)]; refine sS ?_) | refine gT ?_ | (clear hN N))
        all_goals (try unfold Msg.z at hQ)
        all_goals (first | exact retZ hQ Tryd.results37 (Desc.re [] rfl) | exact retZN hQ Tryd.results37 (Desc.re [] rfl))
      · rw [if_neg hq]
        have hq := Decidable.not_not.1 hq
        subst hq
        refine Sp.of_bodyE Tryd.func37 rfl ?_
        intro Q hQ
        simp only [List.replicate, List.length_cons, List.length_nil, Tryd.ntmps37, Nat.reduceAdd, Nat.reduceSub, List.cons_append, List.nil_append, go_sem]
        have hz : True := trivial
        have hy := yieldedV_eq
        have hL := @hr
        repeat' (first | (refine WPV.seqK ?_; intro N hN) | (refine And.intro (hO _ (by kernel_rfl)) ?_; clear hO) | refine gA ?_ | (refine gR (M := noM) ?_; intro N hN ops hy) | (refine gDG (M := noM) ?_; intro N hN ops hy hO) | (refine WPV.condK ?_; intro A hA B hB) | (refine here ?_; refine sS ?_) | refine Both.mk ?_ ?_ | ((with_reducible refine CallO.gd 76 ?_); refine CallO.toB Tryd.call76 (co _) ?_) | ((with_reducible refine CallO.gd 77 ?_); first | refine CallO.toB Tryd.call77 (ct _) ?_ | refine CallO.toB Tryd.call77 (ct2 _) ?_) | ((with_reducible refine CallO.gd 78 ?_); refine CallO.toB Tryd.call78 (kinds_s _) ?_) | ((with_reducible refine CallO.gd 116 ?_); refine CallO.frB [1] Tryd.call116 (ck) ?_) | ((with_reducible refine CallO.gd 120 ?_); refine CallO.frB [1] Tryd.call120 (ck) ?_) | ((with_reducible refine CallO.gd 124 ?_); refine CallO.frB [1] Tryd.call124 (ck) ?_) | ((with_reducible refine CallO.gd 39 ?_); refine CallO.frB [] Tryd.call39 (cc) ?_) | ((with_reducible refine CallP.gd 76 ?_); refine CallP.toB Tryd.call76 (co _) ?_) | ((with_reducible refine CallP.gd 77 ?_); first | refine CallP.toB Tryd.call77 (ct _) ?_ | refine CallP.toB Tryd.call77 (ct2 _) ?_) | ((with_reducible refine CallP.gd 78 ?_); refine CallP.toB Tryd.call78 (kinds_s _) ?_) | ((with_reducible refine CallP.gd 116 ?_); refine CallP.frB [1] 0 Tryd.call116 (ck) ?_) | ((with_reducible refine CallP.gd 120 ?_); refine CallP.frB [1] 0 Tryd.call120 (ck) ?_) | ((with_reducible refine CallP.gd 124 ?_); refine CallP.frB [1] 0 Tryd.call124 (ck) ?_) | (refine hN _ ?_; try clear hN N; try clear hy ops) | (refine hA ?_; clear hA A hB B; try simp only [hz]) | (refine hB ?_; clear hA A hB B; try simp only [hz]) | (refine gG ?_ ?_ <;> (intro hz; have h := nm hz; try (exfalso; omega)) <;> (have hz := nz hz; try subst hz)) | (rw [if_pos (show _ ∧ _ from ⟨by omega, by omega⟩)]; refine sS ?_) | refine gT ?_ | (clear hN N))
        all_goals (first | exact retZ hQ Tryd.results37 (Desc.re [] rfl) | exact retZN hQ Tryd.results37 (Desc.re [] rfl))
  · skip
    obtain ⟨mm, ck, hmm⟩ := kt2 (K := K) vn r (by omega)
    rw [show ((2 : Nat) : Int) = 2 from rfl] at ck ct
    have ck := Sp.wkHp (h := [.cells [.sc (.int .i64 2), .sc (.int .i64 (vn : Int)), .sc (.int .i64 0), .sc (.int .i64 0), .sc (.slice none 0 0)]]) (WkH.cells (Wk.same (Wk.same (Wk.same (Wk.same (Wk.null Wk.nil))))) WkH.nil) ck
    rw [hmp] at ck hmm ⊢
    dsimp only at ck hmm ⊢
    by_cases hee : ee ≠ 0
    · rw [if_pos hee]
      have cc := True.intro
      clear hmp hbd hmm
      obtain ⟨zk, zo, zf, zt, zl⟩ := mm
      refine Sp.of_bodyE Tryd.func37 rfl ?_
      intro Q hQ
      simp only [List.replicate, List.length_cons, List.length_nil, Tryd.ntmps37, Nat.reduceAdd, Nat.reduceSub, List.cons_append, List.nil_append, go_sem]
      have hz : True := trivial
      have hy := yieldedV_eq
      have hL := @hr
      repeat' (first | (refine WPV.seqK ?_; intro N hN) | (refine And.intro (hO _ (by kernel_rfl)) ?_; clear hO) | refine gA ?_ | (refine gR (M := noM) ?_; intro N hN ops hy) | (refine gDG (M := noM) ?_; intro N hN ops hy hO) | (refine WPV.condK ?_; intro A hA B hB) | (refine here ?_; refine sS ?_) | refine Both.mk ?_ ?_ | ((with_reducible refine CallO.gd 76 ?_); refine CallO.toB Tryd.call76 (co _) ?_) | ((with_reducible refine CallO.gd 77 ?_); first | refine CallO.toB Tryd.call77 (ct _) ?_ | refine CallO.toB Tryd.call77 (ct2 _) ?_) | ((with_reducible refine CallO.gd 78 ?_); refine CallO.toB Tryd.call78 (kinds_s _) ?_) | ((with_reducible refine CallO.gd 116 ?_); refine CallO.frB [1] Tryd.call116 (ck) ?_) | ((with_reducible refine CallO.gd 120 ?_); refine CallO.frB [1] Tryd.call120 (ck) ?_) | ((with_reducible refine CallO.gd 124 ?_); refine CallO.frB [1] Tryd.call124 (ck) ?_) | ((with_reducible refine CallO.gd 39 ?_); refine CallO.frB [] Tryd.call39 (cc) ?_) | ((with_reducible refine CallP.gd 76 ?_); refine CallP.toB Tryd.call76 (co _) ?_) | ((with_reducible refine CallP.gd 77 ?_); first | refine CallP.toB Tryd.call77 (ct _) ?_ | refine CallP.toB Tryd.call77 (ct2 _) ?_) | ((with_reducible refine CallP.gd 78 ?_); refine CallP.toB Tryd.call78 (kinds_s _) ?_) | ((with_reducible refine CallP.gd 116 ?_); refine CallP.frB [1] 0 Tryd.call116 (ck) ?_) | ((with_reducible refine CallP.gd 120 ?_); refine CallP.frB [1] 0 Tryd.call120 (ck) ?_) | ((with_reducible refine CallP.gd 124 ?_); refine CallP.frB [1] 0 Tryd.call124 (ck) ?_) | (refine hN _ ?_; try clear hN N; try clear hy ops) | (refine hA ?_; clear hA A hB B; try simp only [hz]) | (refine hB ?_; clear hA A hB B; try simp only [hz]) | (refine gG ?_ ?_ <;> (intro hz; have h := nm hz; try (exfalso; omega)) <;> (have hz := nz hz; try subst hz)) | (rw [if_pos (show _ ∧ _ from ⟨by omega, by omega⟩)]; refine sS ?_) | refine gT ?_ | (clear hN N))
      all_goals (try unfold Msg.z at hQ)
      all_goals (first | exact retZ hQ Tryd.results37 (Desc.re [] rfl) | exact retZN hQ Tryd.results37 (Desc.re [] rfl))
    · rw [if_neg hee]
      have hee := Decidable.not_not.1 hee
      subst hee
      have hmm := hmm rfl
      subst hmm
      obtain ⟨b4, bw⟩ := hbd _ hmp
      have cc := mchk_s (K := K) mm (by omega) (fun t ht => by have := bw t ht; omega)
      clear hmp hbd bw
      generalize mchk mm = q at *
      obtain ⟨zk, zo, zf, zt, zl⟩ := mm
      dsimp only at b4
      by_cases hq : q ≠ 0
      · rw [if_pos hq]
        refine Sp.of_bodyE Tryd.func37 rfl ?_
        intro Q hQ
        simp only [List.replicate, List.length_cons, List.length_nil, Tryd.ntmps37, Nat.reduceAdd, Nat.reduceSub, List.cons_append, List.nil_append, go_sem]
        have hz : True := trivial
        have hy := yieldedV_eq
        have hL := @hr
        repeat' (first | (refine WPV.seqK ?_; intro N hN) | (refine And.intro (hO _ (by kernel_rfl)) ?_; clear hO) | refine gA ?_ | (refine gR (M := noM) ?_; intro N hN ops hy) | (refine gDG (M := noM) ?_; intro N hN ops hy hO) | (refine WPV.condK ?_; intro A hA B hB) | (refine here ?_; refine sS ?_) | refine Both.mk ?_ ?_ | ((with_reducible refine CallO.gd 76 ?_); refine CallO.toB Tryd.call76 (co _) ?_) | ((with_reducible refine CallO.gd 77 ?_); first | refine CallO.toB Tryd.call77 (ct _) ?_ | refine CallO.toB Tryd.call77 (ct2 _) ?_) | ((with_reducible refine CallO.gd 78 ?_); refine CallO.toB Tryd.call78 (kinds_s _) ?_) | ((with_reducible refine CallO.gd 116 ?_); refine CallO.frB [1] Tryd.call116 (ck) ?_) | ((with_reducible refine CallO.gd 120 ?_); refine CallO.frB [1] Tryd.call120 (ck) ?_) | ((with_reducible refine CallO.gd 124 ?_); refine CallO.frB [1] Tryd.call124 (ck) ?_) | ((with_reducible refine CallO.gd 39 ?_); refine CallO.frB [] Tryd.call39 (cc) ?_) | ((with_reducible refine CallP.gd 76 ?_); refine CallP.toB Tryd.call76 (co _) ?_) | ((with_reducible refine CallP.gd 77 ?_); first | refine CallP.toB Tryd.call77 (ct _) ?_ | refine CallP.toB Tryd.call77 (ct2 _) ?_) | ((with_reducible refine CallP.gd 78 ?_); refine CallP.toB Tryd.call78 (kinds_s _) ?_) | ((with_reducible refine CallP.gd 116 ?_); refine CallP.frB [1] 0 Tryd.call116 (ck) ?_) | ((with_reducible refine CallP.gd 120 ?_); refine CallP.frB [1] 0 Tryd.call120 (ck) ?_) | ((with_reducible refine CallP.gd 124 ?_); refine CallP.frB [1] 0 Tryd.call124 (ck) ?_) | (refine hN _ ?_; try clear hN N; try clear hy ops) | (refine hA ?_; clear hA A hB B; try simp only [hz]) | (refine hB ?_; clear hA A hB B; try simp only [hz]) | (refine gG ?_ ?_ <;> (intro hz; have h := nm hz; try (exfalso; omega)) <;> (have hz := nz hz; try subst hz)) | (rw [if_pos (show _ ∧ _ from ⟨by omega, by omega⟩)]; refine sS ?_) | refine gT ?_ | (clear hN N))
        all_goals (try unfold Msg.z at hQ)
        all_goals (first | exact retZ hQ Tryd.results37 (Desc.re [] rfl) | exact retZN hQ Tryd.results37 (Desc.re [] rfl))
      · rw [if_neg hq]
        have hq := Decidable.not_not.1 hq
        subst hq
        refine Sp.of_bodyE Tryd.func37 rfl ?_
        intro Q hQ
        simp only [List.replicate, List.length_cons, List.length_nil, Tryd.ntmps37, Nat.reduceAdd, Nat.reduceSub, List.cons_append, List.nil_append, go_sem]
        have hz : True := trivial
        have hy := yieldedV_eq
        have hL := @hr
        repeat' (first | (refine WPV.seqK ?_; intro N hN) | (refine And.intro (hO _ (by kernel_rfl)) ?_; clear hO) | refine gA ?_ | (refine gR (M := noM) ?_; intro N hN ops hy) | (refine gDG (M := noM) ?_; intro N hN ops hy hO) | (refine WPV.condK ?_; intro A hA B hB) | (refine here ?_; refine sS ?_) | refine Both.mk ?_ ?_ | ((with_reducible refine CallO.gd 76 ?_); refine CallO.toB Tryd.call76 (co _) ?_) | ((with_reducible refine CallO.gd 77 ?_); first | refine CallO.toB Tryd.call77 (ct _) ?_ | refine CallO.toB Tryd.call77 (ct2 _) ?_) | ((with_reducible refine CallO.gd 78 ?_); refine CallO.toB Tryd.call78 (kinds_s _) ?_) | ((with_reducible refine CallO.gd 116 ?_); refine CallO.frB [1] Tryd.call116 (ck) ?_) | ((with_reducible refine CallO.gd 120 ?_); refine CallO.frB [1] Tryd.call120 (ck) ?_) | ((with_reducible refine CallO.gd 124 ?_); refine CallO.frB [1] Tryd.call124 (ck) ?_) | ((with_reducible refine CallO.gd 39 ?_); refine CallO.frB [] Tryd.call39 (cc) ?_) | ((with_reducible refine CallP.gd 76 ?_); refine CallP.toB Tryd.call76 (co _) ?_) | ((with_reducible refine CallP.gd 77 ?_); first | refine CallP.toB Tryd.call77 (ct _) ?_ | refine CallP.toB Tryd.call77 (ct2 _) ?_) | ((with_reducible refine CallP.gd 78 ?_); refine CallP.toB Tryd.call78 (kinds_s _) ?_) | ((with_reducible refine CallP.gd 116 ?_); refine CallP.frB [1] 0 Tryd.call116 (ck) ?_) | ((with_reducible refine CallP.gd 120 ?_); refine CallP.frB [1] 0 Tryd.call120 (ck) ?_) | ((with_reducible refine CallP.gd 124 ?_); refine CallP.frB [1] 0 Tryd.call124 (ck) ?_) | (refine hN _ ?_; try clear hN N; try clear hy ops) | (refine hA ?_; clear hA A hB B; try simp only [hz]) | (refine hB ?_; clear hA A hB B; try simp only [hz]) | (refine gG ?_ ?_ <;> (intro hz; have h := nm hz; try (exfalso; omega)) <;> (have hz := nz hz; try subst hz)) | (rw [if_pos (show _ ∧ _ from ⟨by omega, by omega⟩)]; refine sS ?_) | refine gT ?_ | (clear hN N))
        all_goals (first | exact retZ hQ Tryd.results37 (Desc.re [] rfl) | exact retZN hQ Tryd.results37 (Desc.re [] rfl))
  · skip
    obtain ⟨mm, ck, hmm⟩ := kt3 (K := K) vn r (by omega)
    rw [show ((3 : Nat) : Int) = 3 from rfl] at ck ct
    have ck := Sp.wkHp (h := [.cells [.sc (.int .i64 3), .sc (.int .i64 (vn : Int)), .sc (.int .i64 0), .sc (.int .i64 0), .sc (.slice none 0 0)]]) (WkH.cells (Wk.same (Wk.same (Wk.same (Wk.same (Wk.null Wk.nil))))) WkH.nil) ck
    rw [hmp] at ck hmm ⊢
    dsimp only at ck hmm ⊢
    by_cases hee : ee ≠ 0
    · rw [if_pos hee]
      have cc := True.intro
      clear hmp hbd hmm
      obtain ⟨zk, zo, zf, zt, zl⟩ := mm
      refine Sp.of_bodyE Tryd.func37 rfl ?_
      intro Q hQ
      simp only [List.replicate, List.length_cons, List.length_nil, Tryd.ntmps37, Nat.reduceAdd, Nat.reduceSub, List.cons_append, List.nil_append, go_sem]
      have hz : True := trivial
      have hy := yieldedV_eq
      have hL := @hr
      repeat' (first | (refine WPV.seqK ?_; intro N hN) | (refine And.intro (hO _ (by kernel_rfl)) ?_; clear hO) | refine gA ?_ | (refine gR (M := noM) ?_; intro N hN ops hy) | (refine gDG (M := noM) ?_; intro N hN ops hy hO) | (refine WPV.condK ?_; intro A hA B hB) | (refine here ?_; refine sS ?_) | refine Both.mk ?_ ?_ | ((with_reducible refine CallO.gd 76 ?_); refine CallO.toB Tryd.call76 (co _) ?_) | ((with_reducible refine CallO.gd 77 ?_); first | refine CallO.toB Tryd.call77 (ct _) ?_ | refine CallO.toB Tryd.call77 (ct2 _) ?_) | ((with_reducible refine CallO.gd 78 ?_); refine CallO.toB Tryd.call78 (kinds_s _) ?_) | ((with_reducible refine CallO.gd 116 ?_); refine CallO.frB [1] Tryd.call116 (ck) ?_) | ((with_reducible refine CallO.gd 120 ?_); refine CallO.frB [1] Tryd.call120 (ck) ?_) | ((with_reducible refine CallO.gd 124 ?_); refine CallO.frB [1] Tryd.call124 (ck) ?_) | ((with_reducible refine CallO.gd 39 ?_); refine CallO.frB [] Tryd.call39 (cc) ?_) | ((with_reducible refine CallP.gd 76 ?_); refine CallP.toB Tryd.call76 (co _) ?_) | ((with_reducible refine CallP.gd 77 ?_); first | refine CallP.toB Tryd.call77 (ct _) ?_ | refine CallP.toB Tryd.call77 (ct2 _) ?_) | ((with_reducible refine CallP.gd 78 ?_); refine CallP.toB Tryd.call78 (kinds_s _) ?_) | ((with_reducible refine CallP.gd 116 ?_); refine CallP.frB [1] 0 Tryd.call116 (ck) ?_) | ((with_reducible refine CallP.gd 120 ?_); refine CallP.frB [1] 0 Tryd.call120 (ck) ?_) | ((with_reducible refine CallP.gd 124 ?_); refine CallP.frB [1] 0 Tryd.call124 (ck) ?_) | (refine hN _ ?_; try clear hN N; try clear hy ops) | (refine hA ?_; clear hA A hB B; try simp only [hz]) | (refine hB ?_; clear hA A hB B; try simp only [hz]) | (refine gG ?_ ?_ <;> (intro hz; have h := nm hz; try (exfalso; omega)) <;> (have hz := nz hz; try subst hz)) | (rw [if_pos (show _ ∧ _ from ⟨by omega, by omega⟩)]; refine sS ?_) | refine gT ?_ | (clear hN N))
      all_goals (try unfold Msg.z at hQ)
      all_goals (first | exact retZ hQ Tryd.results37 (Desc.re [] rfl) | exact retZN hQ Tryd.results37 (Desc.re [] rfl))
    · rw [if_neg hee]
      have hee := Decidable.not_not.1 hee
      subst hee
      have hmm := hmm rfl
      subst hmm
      obtain ⟨b4, bw⟩ := hbd _ hmp
      have cc := mchk_s (K := K) mm (by omega) (fun t ht => by have := bw t ht; omega)
      clear hmp hbd bw
      generalize mchk mm = q at *
      obtain ⟨zk, zo, zf, zt, zl⟩ := mm
      dsimp only at b4
      by_cases hq : q ≠ 0
      · rw [if_pos hq]
        refine Sp.of_bodyE Tryd.func37 rfl ?_
        intro Q hQ
        simp only [List.replicate, List.length_cons, List.length_nil, Tryd.ntmps37, Nat.reduceAdd, Nat.reduceSub, List.cons_append, List.nil_append, go_sem]
        have hz : True := trivial
        have hy := yieldedV_eq
        have hL := @hr
        repeat' (first | (refine WPV.seqK ?_; intro N hN) | (refine And.intro (hO _ (by kernel_rfl)) ?_; clear hO) | refine gA ?_ | (refine gR (M := noM) ?_; intro N hN ops hy) | (refine gDG (M := noM) ?_; intro N hN ops hy hO) | (refine WPV.condK ?_; intro A hA B hB) | (refine here ?_; refine sS ?_) | refine Both.mk ?_ ?_ | ((with_reducible refine CallO.gd 76 ?_); refine CallO.toB Tryd.call76 (co _) ?_) | ((with_reducible refine CallO.gd 77 ?_); first | refine CallO.toB Tryd.call77 (ct _) ?_ | refine CallO.toB Tryd.call77 (ct2 _) ?_) | ((with_reducible refine CallO.gd 78 ?_); refine CallO.toB Tryd.call78 (kinds_s _) ?_) | ((with_reducible refine CallO.gd 116 ?_); refine CallO.frB [1] Tryd.call116 (ck) ?_) | ((with_reducible refine CallO.gd 120 ?_); refine CallO.frB [1] Tryd.call120 (ck) ?_) | ((with_reducible refine CallO.gd 124 ?_); refine CallO.frB [1] Tryd.call124 (ck) ?_) | ((with_reducible refine CallO.gd 39 ?_); refine CallO.frB [] Tryd.call39 (cc) ?_) | ((with_reducible refine CallP.gd 76 ?_); refine CallP.toB Tryd.call76 (co _) ?_) | ((with_reducible refine CallP.gd 77 ?_); first | refine CallP.toB Tryd.call77 (ct _) ?_ | refine CallP.toB Tryd.call77 (ct2 _) ?_) | ((with_reducible refine CallP.gd 78 ?_); refine CallP.toB Tryd.call78 (kinds_s _) ?_) | ((with_reducible refine CallP.gd 116 ?_); refine CallP.frB [1] 0 Tryd.call116 (ck) ?_) | ((with_reducible refine CallP.gd 120 ?_); refine CallP.frB [1] 0 Tryd.call120 (ck) ?_) | ((with_reducible refine CallP.gd 124 ?_); refine CallP.frB [1] 0 Tryd.call124 (ck) ?_) | (refine hN _ ?_; try clear hN N; try clear hy ops) | (refine hA ?_; clear hA A hB B; try simp only [hz]) | (refine hB ?_; clear hA A hB B; try simp only [hz]) | (refine gG ?_ ?_ <;> (intro hz; have h := nm hz; try (exfalso; omega)) <;> (have hz := nz hz; try subst hz)) | (rw [if_pos (show _ ∧ _ from ⟨by omega, by omega⟩)]; refine sS ?_) | refine gT ?_ | (clear hN N))
        all_goals (try unfold Msg.z at hQ)
        all_goals (first | exact retZ hQ Tryd.results37 (Desc.re [] rfl) | exact retZN hQ Tryd.results37 (Desc.re [] rfl))
      · rw [if_neg hq]
        have hq := Decidable.not_not.1 hq
        subst hq
        refine Sp.of_bodyE Tryd.func37 rfl ?_
        intro Q hQ
        simp only [List.replicate, List.length_cons, List.length_nil, Tryd.ntmps37, Nat.reduceAdd, Nat.reduceSub, List.cons_append, List.nil_append, go_sem]
        have hz : True := trivial
        have hy := yieldedV_eq
        have hL := @hr
        repeat' (first | (refine WPV.seqK ?_; intro N hN) | (refine And.intro (hO _ (by kernel_rfl)) ?_; clear hO) | refine gA ?_ | (refine gR (M := noM) ?_; intro N hN ops hy) | (refine gDG (M := noM) ?_; intro N hN ops hy hO) | (refine WPV.condK ?_; intro A hA B hB) | (refine here ?_; refine sS ?_) | refine Both.mk ?_ ?_ | ((with_reducible refine CallO.gd 76 ?_); refine CallO.toB Tryd.call76 (co _) ?_) | ((with_reducible refine CallO.gd 77 ?_); first | refine CallO.toB Tryd.call77 (ct _) ?_ | refine CallO.toB Tryd.call77 (ct2 _) ?_) | ((with_reducible refine CallO.gd 78 ?_); refine CallO.toB Tryd.call78 (kinds_s _) ?_) | ((with_reducible refine CallO.gd 116 ?_); refine CallO.frB [1] Tryd.call116 (ck) ?_) | ((with_reducible refine CallO.gd 120 ?_); refine CallO.frB [1] Tryd.call120 (ck) ?_) | ((with_reducible refine CallO.gd 124 ?_); refine CallO.frB [1] Tryd.call124 (ck) ?_) | ((with_reducible refine CallO.gd 39 ?_); refine CallO.frB [] Tryd.call39 (cc) ?_) | ((with_reducible refine CallP.gd 76 ?_); refine CallP.toB Tryd.call76 (co _) ?_) | ((with_reducible refine CallP.gd 77 ?_); first | refine CallP.toB Tryd.call77 (ct _) ?_ | refine CallP.toB Tryd.call77 (ct2 _) ?_) | ((with_reducible refine CallP.gd 78 ?_); refine CallP.toB Tryd.call78 (kinds_s _) ?_) | ((with_reducible refine CallP.gd 116 ?_); refine CallP.frB [1] 0 Tryd.call116 (ck) ?_) | ((with_reducible refine CallP.gd 120 ?_); refine CallP.frB [1] 0 Tryd.call120 (ck) ?_) | ((with_reducible refine CallP.gd 124 ?_); refine CallP.frB [1] 0 Tryd.call124 (ck) ?_) | (refine hN _ ?_; try clear hN N; try clear hy ops) | (refine hA ?_; clear hA A hB B; try simp only [hz]) | (refine hB ?_; clear hA A hB B; try simp only [hz]) | (refine gG ?_ ?_ <;> (intro hz; have h := nm hz; try (exfalso; omega)) <;> (have hz := nz hz; try subst hz)) | (rw [if_pos (show _ ∧ _ from ⟨by omega, by omega⟩)]; refine sS ?_) | refine gT ?_ | (clear hN N))
        all_goals (first | exact retZ hQ Tryd.results37 (Desc.re [] rfl) | exact retZN hQ Tryd.results37 (Desc.re [] rfl))
end Go.Proofs.YtgfnpcmehnjopaaDoor
end
section
namespace Go.Proofs.YtgfnpcmehnjopaaDoor
open Go Go.RowKit
set_option linter.unusedVariables false
set_option linter.unusedSimpArgs false
variable {K : Nat → Obj → Prop}
set_option maxRecDepth 100000 in
set_option maxHeartbeats 1000000 in
theorem rsame_t (t : Tx) (hl : t.w.length ≤ 1000000) : Sp Tryd.prog K 71 [txV t, txV t] [] fun u hh => u = .sc (.bool true) ∧ hh = [] := by
  obtain ⟨o, s, ⟨x, y, z⟩, w⟩ := t
  dsimp only at hl
  have hget : True := trivial
  refine Sp.of_bodyE Tryd.func71 rfl ?_
  intro Q hQ
  simp only [List.replicate, List.length_cons, List.length_nil, Tryd.ntmps71, Nat.reduceAdd, Nat.reduceSub, List.cons_append, List.nil_append, go_sem]
  have hz : True := trivial
  have hy := yieldedV_eq
  have hL := @hget
  repeat' (first | (refine WPV.seqK ?_; intro N hN) | refine gA ?_ | (refine gR (M := noM) ?_; intro N hN ops hy) | (refine gD (M := noM) ?_; intro N hN; have hy := yieldedV_eq) | (refine WPV.condK ?_; intro A hA B hB) | (refine here ?_; refine sS ?_) | refine Both.mk ?_ ?_ | (refine hN _ ?_; try clear hN N; try clear hy ops) | (refine hA ?_; clear hA A hB B; try simp only [hz]) | (refine hB ?_; clear hA A hB B; try simp only [hz]) | (refine gG ?_ ?_ <;> (intro hz; have h := nm hz; try (exfalso; omega)) <;> (have hz := nz hz; try subst hz)) | (rw [if_pos (show _ ∧ _ from ⟨by omega, by omega⟩)]; refine sS ?_) | refine gT ?_ | (clear hN N))
  refine WPV.loopW (α := Nat) (fun k => w.length - k) (fun k => ⟨[.any, .any, .ptr 0 0, .ptr 1 0, .any, .sc (.int .i64 ((k : Nat) : Int)), .any, .any, .any, .any, .any, .any, .any, .any, .any, .any, .any, .any, .any, .any, .any, .any, .any, .any, .any, .any, .any, .any, .any, .any, .any, .any, .any, .any, .any, .any, .any, .any, .any, .any, .any, .any, .any, .any, .any, .any, .any, .any, .any, .any, .any, .any], [.cells [.sc (.int .i64 o), .sc (.int .i64 s), .sc (.int .i64 x), .sc (.int .i64 y), .sc (.int .i64 z), .sl 3 (wrl w)], .cells [.sc (.int .i64 o), .sc (.int .i64 s), .sc (.int .i64 x), .sc (.int .i64 y), .sc (.int .i64 z), .sl 3 (wrl w)]]⟩) (fun k => k ≤ w.length) 0 Desc.weakA (Nat.zero_le _) (fun k hJ H => ?_)
  clear hget
  by_cases h : k < w.length
  · obtain ⟨a, hg⟩ : ∃ a, w[k] = a := ⟨_, rfl⟩
    have hget : w[k]? = some a := by rw [← hg]; exact List.getElem?_eq_getElem h
    have H' := H (k + 1) h (by omega)
    clear H hg
    refine loopV ?_
    have hz : True := trivial
    have hy := yieldedV_eq
    have hL := @hget
    repeat' (first | (refine WPV.seqK ?_; intro N hN) | refine gA ?_ | (refine gR (M := noM) ?_; intro N hN ops hy) | (refine gD (M := noM) ?_; intro N hN; have hy := yieldedV_eq) | (refine WPV.condK ?_; intro A hA B hB) | (refine here ?_; refine sS ?_) | refine Both.mk ?_ ?_ | (refine hN _ ?_; try clear hN N; try clear hy ops) | (refine hA ?_; clear hA A hB B; try simp only [hz]) | (refine hB ?_; clear hA A hB B; try simp only [hz]) | (refine gG ?_ ?_ <;> (intro hz; have h := nm hz; try (exfalso; omega)) <;> (have hz := nz hz; try subst hz)) | (rw [if_pos (show _ ∧ _ from ⟨by omega, by omega⟩)]; refine sS ?_) | refine gT ?_ | (clear hN N))
    all_goals (exact rndZ (Desc.re [some 0, some 1] rfl) (H'))
  · have hget : True := trivial
    clear H
    refine loopV ?_
    have hz : True := trivial
    have hy := yieldedV_eq
    have hL := @hget
    repeat' (first | (refine WPV.seqK ?_; intro N hN) | refine gA ?_ | (refine gR (M := noM) ?_; intro N hN ops hy) | (refine gD (M := noM) ?_; intro N hN; have hy := yieldedV_eq) | (refine WPV.condK ?_; intro A hA B hB) | (refine here ?_; refine sS ?_) | refine Both.mk ?_ ?_ | (refine hN _ ?_; try clear hN N; try clear hy ops) | (refine hA ?_; clear hA A hB B; try simp only [hz]) | (refine hB ?_; clear hA A hB B; try simp only [hz]) | (refine gG ?_ ?_ <;> (intro hz; have h := nm hz; try (exfalso; omega)) <;> (have hz := nz hz; try subst hz)) | (rw [if_pos (show _ ∧ _ from ⟨by omega, by omega⟩)]; refine sS ?_) | refine gT ?_ | (clear hN N))
    all_goals (first | exact retZ hQ Tryd.results71 (Desc.re [] rfl) | exact retZN hQ Tryd.results71 (Desc.re [] rfl))
end Go.Proofs.YtgfnpcmehnjopaaDoor
end
section
namespace Go.Proofs.YtgfnpcmehnjopaaDoor
section
open Go Go.RowKit
set_option linter.unusedVariables false
set_option linter.unusedSimpArgs false
variable {K : Nat → Obj → Prop}
def Wr.big (a : Wr) : Bool := decide (9000 < a.k.size) || decide (9000 < a.v.size)
def Tx.big (t : Tx) : Bool := decide (40 < t.w.length) || t.w.any Wr.big
set_option maxRecDepth 100000 in
set_option maxHeartbeats 4000000 in
theorem tbig_s (t : Tx) : Sp Tryd.prog K 30 [txV t] [] fun u hh => u = .sc (.bool t.big) ∧ hh = [] := by
  obtain ⟨o, s, ⟨x, y, z⟩, w⟩ := t
  have hlt : True := trivial
  have hget : True := trivial
  have hk : True := trivial
  have hv : True := trivial
  have hw : True := trivial
  by_cases h60 : 40 < w.length
  · have e : Tx.big ⟨o, s, ⟨x, y, z⟩, w⟩ = true := by simp [Tx.big, h60]
    rw [e]
    have hlen : ((40 : Int) < (w.length : Int)) = True := eq_true (by omega)
    refine Sp.of_bodyD Tryd.func30 rfl ?_
    intro Q hQ
    simp only [List.replicate, List.length_cons, List.length_nil, Tryd.ntmps30, Nat.reduceAdd, Nat.reduceSub, List.cons_append, List.nil_append, go_sem]
    have hz : True := trivial
    have hy := yieldedV_eq
    have hL := And.intro @hlen (And.intro @hlt (And.intro @hget (And.intro @hk (And.intro @hv (@hw)))))
    repeat' (first | (refine WPV.seqK ?_; intro N hN) | refine gA ?_ | (refine gR (M := noM) ?_; intro N hN ops hy) | (refine gD (M := noM) ?_; intro N hN; have hy := yieldedV_eq) | (refine WPV.condK ?_; intro A hA B hB) | (refine here ?_; refine sM ?_) | refine Both.mk ?_ ?_ | (refine hN _ ?_; try clear hN N; try clear hy ops) | (refine hA ?_; clear hA A hB B; try simp only [hz]) | (refine hB ?_; clear hA A hB B; try simp only [hz]) | (refine gG ?_ ?_ <;> (intro hz; have h := nm hz; try (exfalso; omega)) <;> (have hz := nz hz)) | ((first | rw [if_pos (show _ ∧ _ from ⟨by omega, by omega⟩)] | rw [if_pos (show _ ∧ _ from by simp only [List.length_append, List.length_cons, List.length_nil]; exact ⟨by omega, by omega⟩)]); refine sM ?_) | refine gT ?_ | (clear hN N))
    all_goals (first | exact retA hQ Tryd.results30 (Desc.re [] rfl) | exact retN hQ Tryd.results30 (Desc.re [] rfl))
  · have hlen : ((40 : Int) < (w.length : Int)) = False := eq_false (by omega)
    have e : Tx.big ⟨o, s, ⟨x, y, z⟩, w⟩ = w.any Wr.big := by simp [Tx.big, h60]
    rw [e]
    refine Sp.of_bodyD Tryd.func30 rfl ?_
    intro Q hQ
    simp only [List.replicate, List.length_cons, List.length_nil, Tryd.ntmps30, Nat.reduceAdd, Nat.reduceSub, List.cons_append, List.nil_append, go_sem]
    have hz : True := trivial
    have hy := yieldedV_eq
    have hL := And.intro @hlen (And.intro @hlt (And.intro @hget (And.intro @hk (And.intro @hv (@hw)))))
    repeat' (first | (refine WPV.seqK ?_; intro N hN) | refine gA ?_ | (refine gR (M := noM) ?_; intro N hN ops hy) | (refine gD (M := noM) ?_; intro N hN; have hy := yieldedV_eq) | (refine WPV.condK ?_; intro A hA B hB) | (refine here ?_; refine sM ?_) | refine Both.mk ?_ ?_ | (refine hN _ ?_; try clear hN N; try clear hy ops) | (refine hA ?_; clear hA A hB B; try simp only [hz]) | (refine hB ?_; clear hA A hB B; try simp only [hz]) | (refine gG ?_ ?_ <;> (intro hz; have h := nm hz; try (exfalso; omega)) <;> (have hz := nz hz)) | ((first | rw [if_pos (show _ ∧ _ from ⟨by omega, by omega⟩)] | rw [if_pos (show _ ∧ _ from by simp only [List.length_append, List.length_cons, List.length_nil]; exact ⟨by omega, by omega⟩)]); refine sM ?_) | refine gT ?_ | (clear hN N))
    refine WPV.desc (Desc.weakA (tm' := [.any, .ptr 0 0, .sc (.bool false), .any, .any, .any, .any, .any, .any, .any, .sl 3 (wrl w), .sc (.int .i64 (w.length : Int)), .sc (.int .i64 0), .any, .any, .any, .any, .any, .any, .any, .any, .any, .any, .any, .any, .any, .any]) (h' := [.cells [.sc (.int .i64 o), .sc (.int .i64 s), .sc (.int .i64 x), .sc (.int .i64 y), .sc (.int .i64 z), .sl 3 (wrl w)]])) ?_
    refine WPV.loopA (α := Nat) (fun k => w.length - k) (fun k => ⟨[.any, .ptr 0 0, .sc (.bool false), .any, .any, .any, .any, .any, .any, .any, .sl 3 (wrl w), .sc (.int .i64 (w.length : Int)), .sc (.int .i64 ((k : Nat) : Int)), .any, .any, .any, .any, .any, .any, .any, .any, .any, .any, .any, .any, .any, .any], [.cells [.sc (.int .i64 o), .sc (.int .i64 s), .sc (.int .i64 x), .sc (.int .i64 y), .sc (.int .i64 z), .sl 3 (wrl w)]]⟩) (fun k => k ≤ w.length ∧ w.any Wr.big = (w.drop k).any Wr.big) (fun k ⟨hk0, hJ⟩ H => ?_) 0 ⟨Nat.zero_le _, rfl⟩
    clear hlt hget hk hv hw
    by_cases h : k < w.length
    · have hlt : ((k : Int) < (w.length : Int)) = True := eq_true (by omega)
      have hget : w[k]? = some w[k] := List.getElem?_eq_getElem h
      have hw : IntKind.i64.wrap ((k : Int) + 1) = ((k + 1 : Nat) : Int) := by rw [wr_i64 (by omega) (by omega)]; rfl
      rw [List.drop_eq_getElem_cons h, List.any_cons] at hJ
      generalize w[k] = a at hget hJ
      by_cases hx : 9000 < a.k.size
      · have e : w.any Wr.big = true := by rw [hJ]; simp [Wr.big, hx]
        rw [e] at hQ
        have hk : ((9000 : Int) < (a.k.size : Int)) = True := eq_true (by omega)
        have hv : True := trivial
        clear H
        refine loopV ?_
        have hz : True := trivial
        have hy := yieldedV_eq
        have hL := And.intro @hlen (And.intro @hlt (And.intro @hget (And.intro @hk (And.intro @hv (@hw)))))
        repeat' (first | (refine WPV.seqK ?_; intro N hN) | refine gA ?_ | (refine gR (M := noM) ?_; intro N hN ops hy) | (refine gD (M := noM) ?_; intro N hN; have hy := yieldedV_eq) | (refine WPV.condK ?_; intro A hA B hB) | (refine here ?_; refine sM ?_) | refine Both.mk ?_ ?_ | (refine hN _ ?_; try clear hN N; try clear hy ops) | (refine hA ?_; clear hA A hB B; try simp only [hz]) | (refine hB ?_; clear hA A hB B; try simp only [hz]) | (refine gG ?_ ?_ <;> (intro hz; have h := nm hz; try (exfalso; omega)) <;> (have hz := nz hz)) | ((first | rw [if_pos (show _ ∧ _ from ⟨by omega, by omega⟩)] | rw [if_pos (show _ ∧ _ from by simp only [List.length_append, List.length_cons, List.length_nil]; exact ⟨by omega, by omega⟩)]); refine sM ?_) | refine gT ?_ | (clear hN N))
        all_goals (first | exact retA hQ Tryd.results30 (Desc.re [] rfl) | exact retN hQ Tryd.results30 (Desc.re [] rfl))
      have hk : ((9000 : Int) < (a.k.size : Int)) = False := eq_false (by omega)
      by_cases hy2 : 9000 < a.v.size
      · have e : w.any Wr.big = true := by rw [hJ]; simp [Wr.big, hy2]
        rw [e] at hQ
        have hv : ((9000 : Int) < (a.v.size : Int)) = True := eq_true (by omega)
        clear H
        refine loopV ?_
        have hz : True := trivial
        have hy := yieldedV_eq
        have hL := And.intro @hlen (And.intro @hlt (And.intro @hget (And.intro @hk (And.intro @hv (@hw)))))
        repeat' (first | (refine WPV.seqK ?_; intro N hN) | refine gA ?_ | (refine gR (M := noM) ?_; intro N hN ops hy) | (refine gD (M := noM) ?_; intro N hN; have hy := yieldedV_eq) | (refine WPV.condK ?_; intro A hA B hB) | (refine here ?_; refine sM ?_) | refine Both.mk ?_ ?_ | (refine hN _ ?_; try clear hN N; try clear hy ops) | (refine hA ?_; clear hA A hB B; try simp only [hz]) | (refine hB ?_; clear hA A hB B; try simp only [hz]) | (refine gG ?_ ?_ <;> (intro hz; have h := nm hz; try (exfalso; omega)) <;> (have hz := nz hz)) | ((first | rw [if_pos (show _ ∧ _ from ⟨by omega, by omega⟩)] | rw [if_pos (show _ ∧ _ from by simp only [List.length_append, List.length_cons, List.length_nil]; exact ⟨by omega, by omega⟩)]); refine sM ?_) | refine gT ?_ | (clear hN N))
        all_goals (first | exact retA hQ Tryd.results30 (Desc.re [] rfl) | exact retN hQ Tryd.results30 (Desc.re [] rfl))
      have e : w.any Wr.big = (w.drop (k + 1)).any Wr.big := by rw [hJ]; simp [Wr.big, hx, hy2]
      have hv : ((9000 : Int) < (a.v.size : Int)) = False := eq_false (by omega)
      have H' := H (k + 1) ⟨by omega, e⟩ (by omega)
      clear H
      refine loopV ?_
      have hz : True := trivial
      have hy := yieldedV_eq
      have hL := And.intro @hlen (And.intro @hlt (And.intro @hget (And.intro @hk (And.intro @hv (@hw)))))
      repeat' (first | (refine WPV.seqK ?_; intro N hN) | refine gA ?_ | (refine gR (M := noM) ?_; intro N hN ops hy) | (refine gD (M := noM) ?_; intro N hN; have hy := yieldedV_eq) | (refine WPV.condK ?_; intro A hA B hB) | (refine here ?_; refine sM ?_) | refine Both.mk ?_ ?_ | (refine hN _ ?_; try clear hN N; try clear hy ops) | (refine hA ?_; clear hA A hB B; try simp only [hz]) | (refine hB ?_; clear hA A hB B; try simp only [hz]) | (refine gG ?_ ?_ <;> (intro hz; have h := nm hz; try (exfalso; omega)) <;> (have hz := nz hz)) | ((first | rw [if_pos (show _ ∧ _ from ⟨by omega, by omega⟩)] | rw [if_pos (show _ ∧ _ from by simp only [List.length_append, List.length_cons, List.length_nil]; exact ⟨by omega, by omega⟩)]); refine sM ?_) | refine gT ?_ | (clear hN N))
      exact WPV.desc ((Desc.re [some 0] rfl).trans Desc.weakA) H'
    · obtain rfl : k = w.length := by omega
      have e : w.any Wr.big = false := by rw [hJ]; simp
      rw [e] at hQ
      have hlt : ((w.length : Int) < (w.length : Int)) = False := by simp
      have hget : True := trivial
      have hk : True := trivial
      have hv : True := trivial
      have hw : True := trivial
      refine loopV ?_
      have hz : True := trivial
      have hy := yieldedV_eq
      have hL := And.intro @hlen (And.intro @hlt (And.intro @hget (And.intro @hk (And.intro @hv (@hw)))))
      repeat' (first | (refine WPV.seqK ?_; intro N hN) | refine gA ?_ | (refine gR (M := noM) ?_; intro N hN ops hy) | (refine gD (M := noM) ?_; intro N hN; have hy := yieldedV_eq) | (refine WPV.condK ?_; intro A hA B hB) | (refine here ?_; refine sM ?_) | refine Both.mk ?_ ?_ | (refine hN _ ?_; try clear hN N; try clear hy ops) | (refine hA ?_; clear hA A hB B; try simp only [hz]) | (refine hB ?_; clear hA A hB B; try simp only [hz]) | (refine gG ?_ ?_ <;> (intro hz; have h := nm hz; try (exfalso; omega)) <;> (have hz := nz hz)) | ((first | rw [if_pos (show _ ∧ _ from ⟨by omega, by omega⟩)] | rw [if_pos (show _ ∧ _ from by simp only [List.length_append, List.length_cons, List.length_nil]; exact ⟨by omega, by omega⟩)]); refine sM ?_) | refine gT ?_ | (clear hN N))
      all_goals (first | exact retA hQ Tryd.results30 (Desc.re [] rfl) | exact retN hQ Tryd.results30 (Desc.re [] rfl))
end
end Go.Proofs.YtgfnpcmehnjopaaDoor
end
section
namespace Go.Proofs.YtgfnpcmehnjopaaDoor
open Go Go.RowKit
set_option linter.unusedVariables false
set_option linter.unusedSimpArgs false
variable {K : Nat → Obj → Prop}
def largeT (l : List Tx) : Bool := decide (30 < l.length) || l.any Tx.big
theorem largeT_ok {l : List Tx} (h : largeT l = false) : l.length ≤ 30 ∧ ∀ t ∈ l, t.w.length ≤ 40 := by
  unfold largeT at h
  simp only [Bool.or_eq_false_iff, decide_eq_false_iff_not] at h
  refine ⟨by omega, fun t ht => ?_⟩
  have := List.any_eq_false.1 h.2 t ht
  unfold Tx.big at this
  simp at this
  omega
set_option maxRecDepth 100000 in
set_option maxHeartbeats 1000000 in
theorem large7_s (l : List Tx) (hl : l.length ≤ 9223372036854775807) : Sp Tryd.prog K 25 [.sl 6 (txs l)] [] fun u hh => u = .sc (.bool (largeT l)) ∧ hh = [] := by
  have hget := True.intro
  have cb := True.intro
  by_cases h3 : 30 < l.length
  · have e : largeT l = true := by unfold largeT; simp [h3]
    rw [e]
    refine Sp.of_bodyE Tryd.func25 rfl ?_
    intro Q hQ
    simp only [List.replicate, List.length_cons, List.length_nil, Tryd.ntmps25, Nat.reduceAdd, Nat.reduceSub, List.cons_append, List.nil_append, go_sem]
    have hz : True := trivial
    have hy := yieldedV_eq
    have hL := True.intro
    repeat' (first | (refine WPV.seqK ?_; intro N hN) | (refine And.intro (hO _ (by kernel_rfl)) ?_; clear hO) | refine gA ?_ | (refine gR (M := noM) ?_; intro N hN ops hy) | (refine gDG (M := noM) ?_; intro N hN ops hy hO) | (refine WPV.condK ?_; intro A hA B hB) | (refine here ?_; refine sS ?_) | refine Both.mk ?_ ?_ | (refine hN _ ?_; try clear hN N; try clear hy ops) | (refine hA ?_; clear hA A hB B; try simp only [hz]) | (refine hB ?_; clear hA A hB B; try simp only [hz]) | (refine gG ?_ ?_ <;> (intro hz; have h := nm hz; try (exfalso; omega)) <;> (have hz := nz hz; try subst hz)) | (rw [if_pos (show _ ∧ _ from ⟨by omega, by omega⟩)]; refine sS ?_) | refine gT ?_ | (clear hN N))
    all_goals (first | exact retZ hQ Tryd.results25 (Desc.re [] rfl) | exact retZN hQ Tryd.results25 (Desc.re [] rfl))
  have e : largeT l = l.any Tx.big := by unfold largeT; simp [h3]
  rw [e]
  refine Sp.of_bodyE Tryd.func25 rfl ?_
  intro Q hQ
  simp only [List.replicate, List.length_cons, List.length_nil, Tryd.ntmps25, Nat.reduceAdd, Nat.reduceSub, List.cons_append, List.nil_append, go_sem]
  have hz : True := trivial
  have hy := yieldedV_eq
  have hL := True.intro
  repeat' (first | (refine WPV.seqK ?_; intro N hN) | (refine And.intro (hO _ (by kernel_rfl)) ?_; clear hO) | refine gA ?_ | (refine gR (M := noM) ?_; intro N hN ops hy) | (refine gDG (M := noM) ?_; intro N hN ops hy hO) | (refine WPV.condK ?_; intro A hA B hB) | (refine here ?_; refine sS ?_) | refine Both.mk ?_ ?_ | (refine hN _ ?_; try clear hN N; try clear hy ops) | (refine hA ?_; clear hA A hB B; try simp only [hz]) | (refine hB ?_; clear hA A hB B; try simp only [hz]) | (refine gG ?_ ?_ <;> (intro hz; have h := nm hz; try (exfalso; omega)) <;> (have hz := nz hz; try subst hz)) | (rw [if_pos (show _ ∧ _ from ⟨by omega, by omega⟩)]; refine sS ?_) | refine gT ?_ | (clear hN N))
  clear hget cb
  refine WPV.loopW (α := Nat) (fun k => l.length - k) (fun k => ⟨[.any, .any, .any, .any, .any, .any, .any, .any, .sl 6 (txs l), .sc (.int .i64 (l.length : Int)), .sc (.int .i64 ((k : Nat) : Int)), .any, .any, .any, .any, .any, .any], []⟩) (fun k => k ≤ l.length ∧ l.any Tx.big = (l.drop k).any Tx.big) 0 Desc.weakA ⟨Nat.zero_le _, rfl⟩ (fun k hJ H => ?_)
  obtain ⟨j1, j2⟩ := hJ
  by_cases h : k < l.length
  · obtain ⟨t, hg0⟩ : ∃ t, l[k] = t := ⟨_, rfl⟩
    have hget : l[k]? = some t := by rw [← hg0]; exact List.getElem?_eq_getElem h
    have cb := tbig_s (K := K) t
    rw [List.drop_eq_getElem_cons h, hg0, List.any_cons] at j2
    obtain ⟨o, s, ⟨x, y, z⟩, w⟩ := t
    dsimp only [txV] at cb
    cases hb : Tx.big ⟨o, s, ⟨x, y, z⟩, w⟩ with
    | true =>
      rw [hb, Bool.true_or] at j2
      rw [hb] at cb
      rw [j2] at hQ
      clear H hg0 j2 hb
      refine loopV ?_
      have hz : True := trivial
      have hy := yieldedV_eq
      have hL := @hget
      repeat' (first | (refine WPV.seqK ?_; intro N hN) | (refine And.intro (hO _ (by kernel_rfl)) ?_; clear hO) | refine gA ?_ | (refine gR (M := noM) ?_; intro N hN ops hy) | (refine gDG (M := noM) ?_; intro N hN ops hy hO) | (refine WPV.condK ?_; intro A hA B hB) | (refine here ?_; refine sS ?_) | refine Both.mk ?_ ?_ | ((with_reducible refine CallO.gd 30 ?_); refine CallO.frB [] Tryd.call30 (cb) ?_) | (refine hN _ ?_; try clear hN N; try clear hy ops) | (refine hA ?_; clear hA A hB B; try simp only [hz]) | (refine hB ?_; clear hA A hB B; try simp only [hz]) | (refine gG ?_ ?_ <;> (intro hz; have h := nm hz; try (exfalso; omega)) <;> (have hz := nz hz; try subst hz)) | (rw [if_pos (show _ ∧ _ from ⟨by omega, by omega⟩)]; refine sS ?_) | refine gT ?_ | (clear hN N))
      all_goals (first | exact retZ hQ Tryd.results25 (Desc.re [] rfl) | exact retZN hQ Tryd.results25 (Desc.re [] rfl))
    | false =>
      rw [hb, Bool.false_or] at j2
      rw [hb] at cb
      have H' := H (k + 1) ⟨h, j2⟩ (by omega)
      clear H hg0 j2 hb
      refine loopV ?_
      have hz : True := trivial
      have hy := yieldedV_eq
      have hL := @hget
      repeat' (first | (refine WPV.seqK ?_; intro N hN) | (refine And.intro (hO _ (by kernel_rfl)) ?_; clear hO) | refine gA ?_ | (refine gR (M := noM) ?_; intro N hN ops hy) | (refine gDG (M := noM) ?_; intro N hN ops hy hO) | (refine WPV.condK ?_; intro A hA B hB) | (refine here ?_; refine sS ?_) | refine Both.mk ?_ ?_ | ((with_reducible refine CallO.gd 30 ?_); refine CallO.frB [] Tryd.call30 (cb) ?_) | (refine hN _ ?_; try clear hN N; try clear hy ops) | (refine hA ?_; clear hA A hB B; try simp only [hz]) | (refine hB ?_; clear hA A hB B; try simp only [hz]) | (refine gG ?_ ?_ <;> (intro hz; have h := nm hz; try (exfalso; omega)) <;> (have hz := nz hz; try subst hz)) | (rw [if_pos (show _ ∧ _ from ⟨by omega, by omega⟩)]; refine sS ?_) | refine gT ?_ | (clear hN N))
      all_goals (exact rndZ (Desc.re [] rfl) (H'))
  · obtain rfl : k = l.length := by omega
    rw [List.drop_length] at j2
    have e : l.any Tx.big = false := j2
    rw [e] at hQ
    clear H j2 e
    refine loopV ?_
    have hz : True := trivial
    have hy := yieldedV_eq
    have hL := True.intro
    repeat' (first | (refine WPV.seqK ?_; intro N hN) | (refine And.intro (hO _ (by kernel_rfl)) ?_; clear hO) | refine gA ?_ | (refine gR (M := noM) ?_; intro N hN ops hy) | (refine gDG (M := noM) ?_; intro N hN ops hy hO) | (refine WPV.condK ?_; intro A hA B hB) | (refine here ?_; refine sS ?_) | refine Both.mk ?_ ?_ | (refine hN _ ?_; try clear hN N; try clear hy ops) | (refine hA ?_; clear hA A hB B; try simp only [hz]) | (refine hB ?_; clear hA A hB B; try simp only [hz]) | (refine gG ?_ ?_ <;> (intro hz; have h := nm hz; try (exfalso; omega)) <;> (have hz := nz hz; try subst hz)) | (rw [if_pos (show _ ∧ _ from ⟨by omega, by omega⟩)]; refine sS ?_) | refine gT ?_ | (clear hN N))
    all_goals (first | exact retZ hQ Tryd.results25 (Desc.re [] rfl) | exact retZN hQ Tryd.results25 (Desc.re [] rfl))
set_option maxRecDepth 100000 in
set_option maxHeartbeats 1000000 in
theorem rtxns_t (l : List Tx) (hl : l.length ≤ 1000000) (hw : ∀ t ∈ l, t.w.length ≤ 1000000) : Sp Tryd.prog K 29 [.sl 6 (txs l), .sl 6 (txs l)] [] fun u hh => u = .sc (.bool true) ∧ hh = [] := by
  refine Sp.of_bodyE Tryd.func29 rfl ?_
  intro Q hQ
  simp only [List.replicate, List.length_cons, List.length_nil, Tryd.ntmps29, Nat.reduceAdd, Nat.reduceSub, List.cons_append, List.nil_append, go_sem]
  have hz : True := trivial
  have hy := yieldedV_eq
  have hL := True.intro
  repeat' (first | (refine WPV.seqK ?_; intro N hN) | (refine And.intro (hO _ (by kernel_rfl)) ?_; clear hO) | refine gA ?_ | (refine gR (M := noM) ?_; intro N hN ops hy) | (refine gDG (M := noM) ?_; intro N hN ops hy hO) | (refine WPV.condK ?_; intro A hA B hB) | (refine here ?_; refine sS ?_) | refine Both.mk ?_ ?_ | (refine hN _ ?_; try clear hN N; try clear hy ops) | (refine hA ?_; clear hA A hB B; try simp only [hz]) | (refine hB ?_; clear hA A hB B; try simp only [hz]) | (refine gG ?_ ?_ <;> (intro hz; have h := nm hz; try (exfalso; omega)) <;> (have hz := nz hz; try subst hz)) | (rw [if_pos (show _ ∧ _ from ⟨by omega, by omega⟩)]; refine sS ?_) | refine gT ?_ | (clear hN N))
  refine WPV.loopW (α := Nat) (fun k => l.length - k) (fun k => ⟨[.sl 6 (txs l), .sl 6 (txs l), .any, .any, .any, .sc (.int .i64 ((k : Nat) : Int)), .any, .any, .any, .any, .any, .any, .any, .any, .any, .any, .any, .any, .any, .any, .any, .any, .any, .any, .any, .any, .any], []⟩) (fun k => k ≤ l.length) 0 Desc.weakA (Nat.zero_le _) (fun k hJ H => ?_)
  by_cases h : k < l.length
  · obtain ⟨t, hg0⟩ : ∃ t, l[k] = t := ⟨_, rfl⟩
    have hget : l[k]? = some t := by rw [← hg0]; exact List.getElem?_eq_getElem h
    have cs := rsame_t (K := K) t (hw t (hg0 ▸ List.getElem_mem h))
    have H' := H (k + 1) h (by omega)
    clear H hg0
    obtain ⟨o, s, ⟨x, y, z⟩, w⟩ := t
    dsimp only [txV] at cs
    refine loopV ?_
    have hz : True := trivial
    have hy := yieldedV_eq
    have hL := @hget
    repeat' (first | (refine WPV.seqK ?_; intro N hN) | (refine And.intro (hO _ (by kernel_rfl)) ?_; clear hO) | refine gA ?_ | (refine gR (M := noM) ?_; intro N hN ops hy) | (refine gDG (M := noM) ?_; intro N hN ops hy hO) | (refine WPV.condK ?_; intro A hA B hB) | (refine here ?_; refine sS ?_) | refine Both.mk ?_ ?_ | ((with_reducible refine CallO.gd 71 ?_); refine CallO.frB [] Tryd.call71 (cs) ?_) | ((with_reducible refine CallP.gd 71 ?_); refine CallP.frB [] 0 Tryd.call71 (cs) ?_) | (refine hN _ ?_; try clear hN N; try clear hy ops) | (refine hA ?_; clear hA A hB B; try simp only [hz]) | (refine hB ?_; clear hA A hB B; try simp only [hz]) | (refine gG ?_ ?_ <;> (intro hz; have h := nm hz; try (exfalso; omega)) <;> (have hz := nz hz; try subst hz)) | (rw [if_pos (show _ ∧ _ from ⟨by omega, by omega⟩)]; refine sS ?_) | refine gT ?_ | (clear hN N))
    all_goals (exact rndZ (Desc.re [] rfl) (H'))
  · clear H
    refine loopV ?_
    have hz : True := trivial
    have hy := yieldedV_eq
    have hL := True.intro
    repeat' (first | (refine WPV.seqK ?_; intro N hN) | (refine And.intro (hO _ (by kernel_rfl)) ?_; clear hO) | refine gA ?_ | (refine gR (M := noM) ?_; intro N hN ops hy) | (refine gDG (M := noM) ?_; intro N hN ops hy hO) | (refine WPV.condK ?_; intro A hA B hB) | (refine here ?_; refine sS ?_) | refine Both.mk ?_ ?_ | (refine hN _ ?_; try clear hN N; try clear hy ops) | (refine hA ?_; clear hA A hB B; try simp only [hz]) | (refine hB ?_; clear hA A hB B; try simp only [hz]) | (refine gG ?_ ?_ <;> (intro hz; have h := nm hz; try (exfalso; omega)) <;> (have hz := nz hz; try subst hz)) | (rw [if_pos (show _ ∧ _ from ⟨by omega, by omega⟩)]; refine sS ?_) | refine gT ?_ | (clear hN N))
    all_goals (first | exact retZ hQ Tryd.results29 (Desc.re [] rfl) | exact retZN hQ Tryd.results29 (Desc.re [] rfl))
end Go.Proofs.YtgfnpcmehnjopaaDoor
end
section
namespace Go.Proofs.YtgfnpcmehnjopaaDoor
open Go Go.RowKit
set_option linter.unusedVariables false
set_option linter.unusedSimpArgs false
variable {K : Nat → Obj → Prop}
set_option maxRecDepth 100000 in
set_option maxHeartbeats 1000000 in
theorem rmsame_t (m : Msg) (hl : m.l.length ≤ 1000000) (hw : ∀ t ∈ m.l, t.w.length ≤ 1000000) : Sp Tryd.prog K 40 [msgV m, msgV m] [] fun u hh => u = .sc (.bool true) ∧ hh = [] := by
  have ct := rtxns_t (K := K) m.l hl hw
  obtain ⟨k, o, f, t, l⟩ := m
  dsimp only at ct
  refine Sp.of_bodyE Tryd.func40 rfl ?_
  intro Q hQ
  simp only [List.replicate, List.length_cons, List.length_nil, Tryd.ntmps40, Nat.reduceAdd, Nat.reduceSub, List.cons_append, List.nil_append, go_sem]
  have hz : True := trivial
  have hy := yieldedV_eq
  have hL := True.intro
  repeat' (first | (refine WPV.seqK ?_; intro N hN) | (refine And.intro (hO _ (by kernel_rfl)) ?_; clear hO) | refine gA ?_ | (refine gR (M := noM) ?_; intro N hN ops hy) | (refine gDG (M := noM) ?_; intro N hN ops hy hO) | (refine WPV.condK ?_; intro A hA B hB) | (refine here ?_; refine sS ?_) | refine Both.mk ?_ ?_ | ((with_reducible refine CallO.gd 29 ?_); refine CallO.frB [] Tryd.call29 (ct) ?_) | (refine hN _ ?_; try clear hN N; try clear hy ops) | (refine hA ?_; clear hA A hB B; try simp only [hz]) | (refine hB ?_; clear hA A hB B; try simp only [hz]) | (refine gG ?_ ?_ <;> (intro hz; have h := nm hz; try (exfalso; omega)) <;> (have hz := nz hz; try subst hz)) | (rw [if_pos (show _ ∧ _ from ⟨by omega, by omega⟩)]; refine sS ?_) | refine gT ?_ | (clear hN N))
  all_goals (first | exact retZ hQ Tryd.results40 (Desc.re [] rfl) | exact retZN hQ Tryd.results40 (Desc.re [] rfl))
theorem mput_err {m : Msg} (h : mchk m ≠ 0) : mput m = ([], mchk m) := if_pos h
theorem mput_ok {m : Msg} (h : mchk m = 0) : mput m = (sealF (vput m.k.toNat ++ vput m.o.toNat ++ mbody m), 0) := by unfold mput; exact if_neg (by rw [h]; simp)
theorem mput_len {m : Msg} (h : mchk m = 0) : (mput m).1.length ≤ 200000 := by
  have h1 := mbody_len h
  obtain ⟨hk, ho, _⟩ := mchk_ok h
  have h2 := vput_len (n := m.k.toNat) (by omega)
  have h3 := vput_len (n := m.o.toNat) (by omega)
  rw [mput_ok h, sealF_len]
  simp only [List.length_append]; omega
theorem mchk_bd {m : Msg} (h : mchk m = 0) : m.l.length ≤ 4 ∧ ∀ t ∈ m.l, t.w.length ≤ 16 := by
  obtain ⟨_, _, hb⟩ := mchk_ok h
  rcases hb with ⟨h1, hd⟩ | ⟨h1, hd⟩ | ⟨h1, hd⟩
  · obtain ⟨_, _, a3, a4⟩ := mdata_ok hd
    exact ⟨a3, fun t ht => (check_ok (a4 t ht)).2.2.2.1⟩
  · rw [(mack_ok hd).2.1]; simp
  · rw [(mask_ok hd).1]; simp
theorem vsame_m (l : List UInt8) (h : List Ho) : Sp Tryd.prog K 21 [.sl 1 (bs l), .sl 1 (bs l)] h fun u hh => u = .sc (.bool true) ∧ hh = h := by
  simpa using vsame_s (K := K) l l h
set_option maxRecDepth 100000 in
set_option maxHeartbeats 8000000 in
theorem mailback_s (hK : KT K) (aw : Sp Tryd.prog K 35 [] [] fun u hh => u = .sc (.bool true) ∧ hh = []) (m : Msg) (b : List UInt8) (hl : m.l.length ≤ 9223372036854775807) : Sp Tryd.prog K 8 [msgV m, .sl 1 (bs b)] [] fun u hh => u = .sc (.bool true) ∧ hh = [] := by
  have cl := large7_s (K := K) m.l hl
  by_cases hg : largeT m.l = true
  · rw [hg] at cl
    have cs := True.intro
    obtain ⟨k, o, f, t, l⟩ := m
    refine Sp.of_bodyE Tryd.func8 rfl ?_
    intro Q hQ
    simp only [List.replicate, List.length_cons, List.length_nil, Tryd.ntmps8, Nat.reduceAdd, Nat.reduceSub, List.cons_append, List.nil_append, go_sem]
    have hz : True := trivial
    have hy := yieldedV_eq
    have hL := True.intro
    repeat' (first | (refine WPV.seqK ?_; intro N hN) | (refine And.intro (hO _ (by kernel_rfl)) ?_; clear hO) | refine gA ?_ | (refine gR (M := noM) ?_; intro N hN ops hy) | (refine gDG (M := noM) ?_; intro N hN ops hy hO) | (refine WPV.condK ?_; intro A hA B hB) | (refine here ?_; refine sS ?_) | refine Both.mk ?_ ?_ | ((with_reducible refine CallO.gd 35 ?_); refine CallO.frB [] Tryd.call35 (aw) ?_) | ((with_reducible refine CallO.gd 25 ?_); refine CallO.frB [] Tryd.call25 (cl) ?_) | ((with_reducible refine CallO.gd 36 ?_); refine CallO.toB Tryd.call36 (cs _) ?_) | ((with_reducible refine CallP.gd 36 ?_); refine CallP.toB Tryd.call36 (cs _) ?_) | (refine hN _ ?_; try clear hN N; try clear hy ops) | (refine hA ?_; clear hA A hB B; try simp only [hz]) | (refine hB ?_; clear hA A hB B; try simp only [hz]) | (refine gG ?_ ?_ <;> (intro hz; have h := nm hz; try (exfalso; omega)) <;> (have hz := nz hz; try subst hz)) | (rw [if_pos (show _ ∧ _ from ⟨by omega, by omega⟩)]; refine sS ?_) | refine gT ?_ | (clear hN N))
    all_goals (first | exact retZ hQ Tryd.results8 (Desc.re [] rfl) | exact retZN hQ Tryd.results8 (Desc.re [] rfl))
  have hg : largeT m.l = false := by simpa using hg
  rw [hg] at cl
  obtain ⟨l30, l40⟩ := largeT_ok hg
  by_cases hb9 : 9000 < b.length
  · have cs := True.intro
    obtain ⟨k, o, f, t, l⟩ := m
    refine Sp.of_bodyE Tryd.func8 rfl ?_
    intro Q hQ
    simp only [List.replicate, List.length_cons, List.length_nil, Tryd.ntmps8, Nat.reduceAdd, Nat.reduceSub, List.cons_append, List.nil_append, go_sem]
    have hz : True := trivial
    have hy := yieldedV_eq
    have hL := True.intro
    repeat' (first | (refine WPV.seqK ?_; intro N hN) | (refine And.intro (hO _ (by kernel_rfl)) ?_; clear hO) | refine gA ?_ | (refine gR (M := noM) ?_; intro N hN ops hy) | (refine gDG (M := noM) ?_; intro N hN ops hy hO) | (refine WPV.condK ?_; intro A hA B hB) | (refine here ?_; refine sS ?_) | refine Both.mk ?_ ?_ | ((with_reducible refine CallO.gd 35 ?_); refine CallO.frB [] Tryd.call35 (aw) ?_) | ((with_reducible refine CallO.gd 25 ?_); refine CallO.frB [] Tryd.call25 (cl) ?_) | ((with_reducible refine CallO.gd 36 ?_); refine CallO.toB Tryd.call36 (cs _) ?_) | ((with_reducible refine CallP.gd 36 ?_); refine CallP.toB Tryd.call36 (cs _) ?_) | (refine hN _ ?_; try clear hN N; try clear hy ops) | (refine hA ?_; clear hA A hB B; try simp only [hz]) | (refine hB ?_; clear hA A hB B; try simp only [hz]) | (refine gG ?_ ?_ <;> (intro hz; have h := nm hz; try (exfalso; omega)) <;> (have hz := nz hz; try subst hz)) | (rw [if_pos (show _ ∧ _ from ⟨by omega, by omega⟩)]; refine sS ?_) | refine gT ?_ | (clear hN N))
    all_goals (first | exact retZ hQ Tryd.results8 (Desc.re [] rfl) | exact retZN hQ Tryd.results8 (Desc.re [] rfl))
  have cs := fun h => seal_s hK b (by omega) h
  have hsl := sealF_len b
  have ck := mchk_s (K := K) m hl (fun t ht => Nat.le_trans (l40 t ht) (by decide))
  have cp := mput_s hK m hl (fun t ht => Nat.le_trans (l40 t ht) (by decide))
  have hfin := fun h : mchk m = 0 => mtake_mput h
  have hml := fun h : mchk m = 0 => mput_len h
  have cm := rmsame_t (K := K) m (by omega) (fun t ht => Nat.le_trans (l40 t ht) (by decide))
  have hperr := fun h : mchk m ≠ 0 => mput_err h
  have hpok := fun h : mchk m = 0 => mput_ok h
  have ctk := fun (s : List UInt8) (h : s.length ≤ 1000000) => mtake_s hK s h
  have cpk := fun (x : Msg) h1 h2 => mput_s hK x h1 h2
  have cck := fun (x : Msg) h1 h2 => mchk_s (K := K) x h1 h2
  obtain ⟨sb, hsb⟩ : ∃ sb, sealF b = sb := ⟨_, rfl⟩
  rw [hsb] at cs hsl
  obtain ⟨q, hq⟩ : ∃ q, mchk m = q := ⟨_, rfl⟩
  obtain ⟨p, e, hp⟩ : ∃ p e, mput m = (p, e) := ⟨_, _, rfl⟩
  rw [hp] at cp hfin hml hperr hpok
  rw [hq] at ck hfin hml hperr hpok
  clear hsb hp hg
  obtain ⟨k, o, f, t, l⟩ := m
  dsimp only at ck cp cm l30
  refine Sp.of_bodyE Tryd.func8 rfl ?_
  intro Q hQ
  simp only [List.replicate, List.length_cons, List.length_nil, Tryd.ntmps8, Nat.reduceAdd, Nat.reduceSub, List.cons_append, List.nil_append, go_sem]
  have hz : True := trivial
  have hy := yieldedV_eq
  have hL := True.intro
  repeat' (first | (refine WPV.seqK ?_; intro N hN) | (refine And.intro (hO _ (by kernel_rfl)) ?_; clear hO) | refine gA ?_ | (refine gR (M := noM) ?_; intro N hN ops hy) | (refine gDG (M := noM) ?_; intro N hN ops hy hO) | (refine WPV.condK ?_; intro A hA B hB) | (refine here ?_; refine sS ?_) | refine Both.mk ?_ ?_ | ((with_reducible refine CallO.gd 35 ?_); refine CallO.frB [] Tryd.call35 (aw) ?_) | ((with_reducible refine CallO.gd 25 ?_); refine CallO.frB [] Tryd.call25 (cl) ?_) | ((with_reducible refine CallO.gd 36 ?_); refine CallO.toB Tryd.call36 (cs _) ?_) | ((with_reducible refine CallP.gd 36 ?_); refine CallP.toB Tryd.call36 (cs _) ?_) | (refine hN _ ?_; try clear hN N; try clear hy ops) | (refine hA ?_; clear hA A hB B; try simp only [hz]) | (refine hB ?_; clear hA A hB B; try simp only [hz]) | (refine gG ?_ ?_ <;> (intro hz; have h := nm hz; try (exfalso; omega)) <;> (have hz := nz hz; try subst hz)) | (rw [if_pos (show _ ∧ _ from ⟨by omega, by omega⟩)]; refine sS ?_) | refine gT ?_ | (clear hN N))
  clear cs cl aw
  refine WPV.loopW (α := Nat) (fun i => 2 - i) (fun i => ⟨[.any, .any, .ptr 0 0, .any, .any, .any, .any, .any, .any, .any, .any, .any, .any, .any, .any, .any, .any, .any, .any, .any, .any, .any, .any, .any, .any, .any, .any, .any, .agg [.sl 1 (bs b), .sl 1 (bs sb)], .sc (.int .i64 (i : Int)), .any, .any, .any, .any, .any, .any, .any, .any, .any, .any, .any, .any, .any, .any, .any, .any, .any, .any, .any, .any, .any, .any, .any, .any, .any, .any, .any, .any, .any, .any, .any, .any, .any, .any, .any, .any, .any, .any, .any, .any, .any, .any, .any, .any, .any, .any, .any, .any, .any, .any, .any, .any, .any, .any, .any, .any], [.cells [.sc (.int .i64 k), .sc (.int .i64 o), .sc (.int .i64 f), .sc (.int .i64 t), .sl 6 (txs l)]]⟩) (fun i => i ≤ 2) 0 Desc.weakA (by decide) (fun i hJ H => ?_)
  by_cases hi : i < 2
  · have H' := H (i + 1) (by omega) (by omega)
    clear H hfin hml hperr hpok ck cp cm hQ
    obtain ⟨s, hs, hsl2⟩ : ∃ s, (i = 0 → s = b) ∧ (i = 1 → s = sb) := by
      by_cases h0 : i = 0
      · exact ⟨b, fun _ => rfl, fun h => by omega⟩
      · exact ⟨sb, fun h => absurd h h0, fun _ => rfl⟩
    have hslen : s.length ≤ 10000 := by
      by_cases h0 : i = 0
      · rw [hs h0]; omega
      · rw [hsl2 (by omega)]; omega
    have ct := ctk s (by omega)
    obtain ⟨x, e1, hx⟩ : ∃ x e, mtake s = (x, e) := ⟨_, _, rfl⟩
    rw [hx] at ct
    have vs := fun h => vsame_m (K := K) s h
    by_cases he : e1 ≠ 0
    · clear hx cpk cck ctk
      obtain ⟨xk, xo, xf, xt, xl⟩ := x
      dsimp only at ct
      rcases (show i = 0 ∨ i = 1 by omega) with rfl | rfl
      · have hs := hs rfl
        subst hs
        refine loopV ?_
        have hz : True := trivial
        have hy := yieldedV_eq
        have hL := True.intro
        repeat' (first | (refine WPV.seqK ?_; intro N hN) | (refine And.intro (hO _ (by kernel_rfl)) ?_; clear hO) | refine gA ?_ | (refine gR (M := noM) ?_; intro N hN ops hy) | (refine gDG (M := noM) ?_; intro N hN ops hy hO) | (refine WPV.condK ?_; intro A hA B hB) | (refine here ?_; refine sS ?_) | refine Both.mk ?_ ?_ | ((with_reducible refine CallO.gd 37 ?_); refine CallO.frB [] Tryd.call37 (ct) ?_) | (refine hN _ ?_; try clear hN N; try clear hy ops) | (refine hA ?_; clear hA A hB B; try simp only [hz]) | (refine hB ?_; clear hA A hB B; try simp only [hz]) | (refine gG ?_ ?_ <;> (intro hz; have h := nm hz; try (exfalso; omega)) <;> (have hz := nz hz; try subst hz)) | (rw [if_pos (show _ ∧ _ from ⟨by omega, by omega⟩)]; refine sS ?_) | refine gT ?_ | (clear hN N))
        all_goals (exact rndZ (Desc.re [some 0] rfl) (H'))
      · have hs := hsl2 rfl
        subst hs
        refine loopV ?_
        have hz : True := trivial
        have hy := yieldedV_eq
        have hL := True.intro
        repeat' (first | (refine WPV.seqK ?_; intro N hN) | (refine And.intro (hO _ (by kernel_rfl)) ?_; clear hO) | refine gA ?_ | (refine gR (M := noM) ?_; intro N hN ops hy) | (refine gDG (M := noM) ?_; intro N hN ops hy hO) | (refine WPV.condK ?_; intro A hA B hB) | (refine here ?_; refine sS ?_) | refine Both.mk ?_ ?_ | ((with_reducible refine CallO.gd 37 ?_); refine CallO.frB [] Tryd.call37 (ct) ?_) | (refine hN _ ?_; try clear hN N; try clear hy ops) | (refine hA ?_; clear hA A hB B; try simp only [hz]) | (refine hB ?_; clear hA A hB B; try simp only [hz]) | (refine gG ?_ ?_ <;> (intro hz; have h := nm hz; try (exfalso; omega)) <;> (have hz := nz hz; try subst hz)) | (rw [if_pos (show _ ∧ _ from ⟨by omega, by omega⟩)]; refine sS ?_) | refine gT ?_ | (clear hN N))
        all_goals (exact rndZ (Desc.re [some 0] rfl) (H'))
    · have he := Decidable.not_not.1 he
      subst he
      obtain ⟨hpx, hcx⟩ := mput_mtake hx
      obtain ⟨b4, bw⟩ := mchk_bd hcx
      have cpx := cpk x (by omega) (fun t ht => Nat.le_trans (bw t ht) (by decide))
      have ccx := cck x (by omega) (fun t ht => Nat.le_trans (bw t ht) (by decide))
      rw [hpx] at cpx
      rw [hcx] at ccx
      clear hx hpx hcx cpk cck ctk
      obtain ⟨xk, xo, xf, xt, xl⟩ := x
      dsimp only [byV] at ct cpx ccx
      rcases (show i = 0 ∨ i = 1 by omega) with rfl | rfl
      · have hs := hs rfl
        subst hs
        refine loopV ?_
        have hz : True := trivial
        have hy := yieldedV_eq
        have hL := True.intro
        repeat' (first | (refine WPV.seqK ?_; intro N hN) | (refine And.intro (hO _ (by kernel_rfl)) ?_; clear hO) | refine gA ?_ | (refine gR (M := noM) ?_; intro N hN ops hy) | (refine gDG (M := noM) ?_; intro N hN ops hy hO) | (refine WPV.condK ?_; intro A hA B hB) | (refine here ?_; refine sS ?_) | refine Both.mk ?_ ?_ | ((with_reducible refine CallO.gd 37 ?_); refine CallO.frB [] Tryd.call37 (ct) ?_) | ((with_reducible refine CallO.gd 38 ?_); refine CallO.frB [] Tryd.call38 (cpx) ?_) | ((with_reducible refine CallO.gd 39 ?_); refine CallO.frB [] Tryd.call39 (ccx) ?_) | ((with_reducible refine CallO.gd 21 ?_); refine CallO.toB Tryd.call21 (vs _) ?_) | ((with_reducible refine CallP.gd 21 ?_); refine CallP.toB Tryd.call21 (vs _) ?_) | (refine hN _ ?_; try clear hN N; try clear hy ops) | (refine hA ?_; clear hA A hB B; try simp only [hz]) | (refine hB ?_; clear hA A hB B; try simp only [hz]) | (refine gG ?_ ?_ <;> (intro hz; have h := nm hz; try (exfalso; omega)) <;> (have hz := nz hz; try subst hz)) | (rw [if_pos (show _ ∧ _ from ⟨by omega, by omega⟩)]; refine sS ?_) | refine gT ?_ | (clear hN N))
        all_goals (exact rndZ (Desc.re [some 0] rfl) (H'))
      · have hs := hsl2 rfl
        subst hs
        refine loopV ?_
        have hz : True := trivial
        have hy := yieldedV_eq
        have hL := True.intro
        repeat' (first | (refine WPV.seqK ?_; intro N hN) | (refine And.intro (hO _ (by kernel_rfl)) ?_; clear hO) | refine gA ?_ | (refine gR (M := noM) ?_; intro N hN ops hy) | (refine gDG (M := noM) ?_; intro N hN ops hy hO) | (refine WPV.condK ?_; intro A hA B hB) | (refine here ?_; refine sS ?_) | refine Both.mk ?_ ?_ | ((with_reducible refine CallO.gd 37 ?_); refine CallO.frB [] Tryd.call37 (ct) ?_) | ((with_reducible refine CallO.gd 38 ?_); refine CallO.frB [] Tryd.call38 (cpx) ?_) | ((with_reducible refine CallO.gd 39 ?_); refine CallO.frB [] Tryd.call39 (ccx) ?_) | ((with_reducible refine CallO.gd 21 ?_); refine CallO.toB Tryd.call21 (vs _) ?_) | ((with_reducible refine CallP.gd 21 ?_); refine CallP.toB Tryd.call21 (vs _) ?_) | (refine hN _ ?_; try clear hN N; try clear hy ops) | (refine hA ?_; clear hA A hB B; try simp only [hz]) | (refine hB ?_; clear hA A hB B; try simp only [hz]) | (refine gG ?_ ?_ <;> (intro hz; have h := nm hz; try (exfalso; omega)) <;> (have hz := nz hz; try subst hz)) | (rw [if_pos (show _ ∧ _ from ⟨by omega, by omega⟩)]; refine sS ?_) | refine gT ?_ | (clear hN N))
        all_goals (exact rndZ (Desc.re [some 0] rfl) (H'))
  obtain rfl : i = 2 := by omega
  clear H cpk cck
  by_cases he : q ≠ 0
  · have hpe := hperr he
    simp only [Prod.mk.injEq] at hpe
    obtain ⟨rfl, rfl⟩ := hpe
    clear hfin hml hperr hpok
    dsimp only [byV] at cp
    refine loopV ?_
    have hz : True := trivial
    have hy := yieldedV_eq
    have hL := True.intro
    repeat' (first | (refine WPV.seqK ?_; intro N hN) | (refine And.intro (hO _ (by kernel_rfl)) ?_; clear hO) | refine gA ?_ | (refine gR (M := noM) ?_; intro N hN ops hy) | (refine gDG (M := noM) ?_; intro N hN ops hy hO) | (refine WPV.condK ?_; intro A hA B hB) | (refine here ?_; refine sS ?_) | refine Both.mk ?_ ?_ | ((with_reducible refine CallO.gd 38 ?_); refine CallO.frB [] Tryd.call38 (cp) ?_) | ((with_reducible refine CallO.gd 39 ?_); refine CallO.frB [] Tryd.call39 (ck) ?_) | (refine hN _ ?_; try clear hN N; try clear hy ops) | (refine hA ?_; clear hA A hB B; try simp only [hz]) | (refine hB ?_; clear hA A hB B; try simp only [hz]) | (refine gG ?_ ?_ <;> (intro hz; have h := nm hz; try (exfalso; omega)) <;> (have hz := nz hz; try subst hz)) | (rw [if_pos (show _ ∧ _ from ⟨by omega, by omega⟩)]; refine sS ?_) | refine gT ?_ | (clear hN N))
    all_goals (first | exact retZ hQ Tryd.results8 (Desc.re [] rfl) | exact retZN hQ Tryd.results8 (Desc.re [] rfl))
  have he := Decidable.not_not.1 he
  subst he
  have hpe := hpok rfl
  simp only [Prod.mk.injEq] at hpe
  obtain ⟨_, rfl⟩ := hpe
  have hpl := hml rfl
  have ct := ctk p (by dsimp only at hpl; omega)
  rw [hfin rfl] at ct
  clear hfin hml hperr hpok ctk
  dsimp only [byV] at cp ct
  refine loopV ?_
  have hz : True := trivial
  have hy := yieldedV_eq
  have hL := True.intro
  repeat' (first | (refine WPV.seqK ?_; intro N hN) | (refine And.intro (hO _ (by kernel_rfl)) ?_; clear hO) | refine gA ?_ | (refine gR (M := noM) ?_; intro N hN ops hy) | (refine gDG (M := noM) ?_; intro N hN ops hy hO) | (refine WPV.condK ?_; intro A hA B hB) | (refine here ?_; refine sS ?_) | refine Both.mk ?_ ?_ | ((with_reducible refine CallO.gd 38 ?_); refine CallO.frB [] Tryd.call38 (cp) ?_) | ((with_reducible refine CallO.gd 37 ?_); refine CallO.frB [] Tryd.call37 (ct) ?_) | ((with_reducible refine CallO.gd 40 ?_); refine CallO.frB [] Tryd.call40 (cm) ?_) | (refine hN _ ?_; try clear hN N; try clear hy ops) | (refine hA ?_; clear hA A hB B; try simp only [hz]) | (refine hB ?_; clear hA A hB B; try simp only [hz]) | (refine gG ?_ ?_ <;> (intro hz; have h := nm hz; try (exfalso; omega)) <;> (have hz := nz hz; try subst hz)) | (rw [if_pos (show _ ∧ _ from ⟨by omega, by omega⟩)]; refine sS ?_) | refine gT ?_ | (clear hN N))
  all_goals (first | exact retZ hQ Tryd.results8 (Desc.re [] rfl) | exact retZN hQ Tryd.results8 (Desc.re [] rfl))
set_option maxRecDepth 100000 in
set_option maxHeartbeats 8000000 in
theorem mailbursts_s (hK : KT K) (aw : Sp Tryd.prog K 35 [] [] fun u hh => u = .sc (.bool true) ∧ hh = []) (m : Msg) (at_ : Int) (mk : UInt32) (ha : -9223372036854775808 ≤ at_) (hb : at_ ≤ 9223372036854775807) (hl : m.l.length ≤ 9223372036854775807) : Sp Tryd.prog K 9 [msgV m, .sc (.int .i64 at_), .sc (.int .u32 (U mk))] [] fun u hh => u = .sc (.bool true) ∧ hh = [] := by
  have cl := large7_s (K := K) m.l hl
  by_cases hg : largeT m.l = true
  · rw [hg] at cl
    have cp := True.intro
    have cu := True.intro
    have ct := True.intro
    have cs := True.intro
    have cm := True.intro
    obtain ⟨k, o, f, t, l⟩ := m
    refine Sp.of_bodyE Tryd.func9 rfl ?_
    intro Q hQ
    simp only [List.replicate, List.length_cons, List.length_nil, Tryd.ntmps9, Nat.reduceAdd, Nat.reduceSub, List.cons_append, List.nil_append, go_sem]
    have hz : True := trivial
    have hy := yieldedV_eq
    have hL := True.intro
    repeat' (first | (refine WPV.seqK ?_; intro N hN) | (refine And.intro (hO _ (by kernel_rfl)) ?_; clear hO) | refine gA ?_ | (refine gR (M := noM) ?_; intro N hN ops hy) | (refine gDG (M := noM) ?_; intro N hN ops hy hO) | (refine WPV.condK ?_; intro A hA B hB) | (refine here ?_; refine sS ?_) | refine Both.mk ?_ ?_ | ((with_reducible refine CallO.gd 35 ?_); refine CallO.frB [] Tryd.call35 (aw) ?_) | ((with_reducible refine CallO.gd 25 ?_); refine CallO.frB [] Tryd.call25 (cl) ?_) | ((with_reducible refine CallO.gd 38 ?_); refine CallO.frB [] Tryd.call38 (cp) ?_) | ((with_reducible refine CallO.gd 41 ?_); refine CallO.toB Tryd.call41 (cu _) ?_) | ((with_reducible refine CallO.gd 37 ?_); refine CallO.frB [] Tryd.call37 (ct) ?_) | ((with_reducible refine CallO.gd 21 ?_); refine CallO.toB Tryd.call21 (cs _) ?_) | ((with_reducible refine CallO.gd 40 ?_); refine CallO.frB [] Tryd.call40 (cm) ?_) | ((with_reducible refine CallP.gd 41 ?_); refine CallP.toB Tryd.call41 (cu _) ?_) | ((with_reducible refine CallP.gd 21 ?_); refine CallP.toB Tryd.call21 (cs _) ?_) | (refine hN _ ?_; try clear hN N; try clear hy ops) | (refine hA ?_; clear hA A hB B; try simp only [hz]) | (refine hB ?_; clear hA A hB B; try simp only [hz]) | (refine gG ?_ ?_ <;> (intro hz; have h := nm hz; try (exfalso; omega)) <;> (have hz := nz hz; try subst hz)) | (rw [if_pos (show _ ∧ _ from ⟨by omega, by omega⟩)]; refine sS ?_) | refine gT ?_ | (clear hN N))
    all_goals (first | exact retZ hQ Tryd.results9 (Desc.re [] rfl) | exact retZN hQ Tryd.results9 (Desc.re [] rfl))
  have hg : largeT m.l = false := by simpa using hg
  rw [hg] at cl
  obtain ⟨l30, l40⟩ := largeT_ok hg
  have cp := mput_s hK m hl (fun t ht => Nat.le_trans (l40 t ht) (by decide))
  by_cases he : mchk m ≠ 0
  · rw [mput_err he] at cp
    generalize mchk m = q at *
    have cu := True.intro
    have ct := True.intro
    have cs := True.intro
    have cm := True.intro
    obtain ⟨k, o, f, t, l⟩ := m
    dsimp only [byV] at cp
    refine Sp.of_bodyE Tryd.func9 rfl ?_
    intro Q hQ
    simp only [List.replicate, List.length_cons, List.length_nil, Tryd.ntmps9, Nat.reduceAdd, Nat.reduceSub, List.cons_append, List.nil_append, go_sem]
    have hz : True := trivial
    have hy := yieldedV_eq
    have hL := True.intro
    repeat' (first | (refine WPV.seqK ?_; intro N hN) | (refine And.intro (hO _ (by kernel_rfl)) ?_; clear hO) | refine gA ?_ | (refine gR (M := noM) ?_; intro N hN ops hy) | (refine gDG (M := noM) ?_; intro N hN ops hy hO) | (refine WPV.condK ?_; intro A hA B hB) | (refine here ?_; refine sS ?_) | refine Both.mk ?_ ?_ | ((with_reducible refine CallO.gd 35 ?_); refine CallO.frB [] Tryd.call35 (aw) ?_) | ((with_reducible refine CallO.gd 25 ?_); refine CallO.frB [] Tryd.call25 (cl) ?_) | ((with_reducible refine CallO.gd 38 ?_); refine CallO.frB [] Tryd.call38 (cp) ?_) | ((with_reducible refine CallO.gd 41 ?_); refine CallO.toB Tryd.call41 (cu _) ?_) | ((with_reducible refine CallO.gd 37 ?_); refine CallO.frB [] Tryd.call37 (ct) ?_) | ((with_reducible refine CallO.gd 21 ?_); refine CallO.toB Tryd.call21 (cs _) ?_) | ((with_reducible refine CallO.gd 40 ?_); refine CallO.frB [] Tryd.call40 (cm) ?_) | ((with_reducible refine CallP.gd 41 ?_); refine CallP.toB Tryd.call41 (cu _) ?_) | ((with_reducible refine CallP.gd 21 ?_); refine CallP.toB Tryd.call21 (cs _) ?_) | (refine hN _ ?_; try clear hN N; try clear hy ops) | (refine hA ?_; clear hA A hB B; try simp only [hz]) | (refine hB ?_; clear hA A hB B; try simp only [hz]) | (refine gG ?_ ?_ <;> (intro hz; have h := nm hz; try (exfalso; omega)) <;> (have hz := nz hz; try subst hz)) | (rw [if_pos (show _ ∧ _ from ⟨by omega, by omega⟩)]; refine sS ?_) | refine gT ?_ | (clear hN N))
    all_goals (first | exact retZ hQ Tryd.results9 (Desc.re [] rfl) | exact retZN hQ Tryd.results9 (Desc.re [] rfl))
  have he := Decidable.not_not.1 he
  have cm := rmsame_t (K := K) m (by omega) (fun t ht => Nat.le_trans (l40 t ht) (by decide))
  have hpl := mput_len he
  have hback := mtake_mput he
  rw [mput_ok he] at cp hpl hback
  have hbl := bursts_law (vput m.k.toNat ++ vput m.o.toNat ++ mbody m) at_ mk
  generalize sealF (vput m.k.toNat ++ vput m.o.toNat ++ mbody m) = p at *
  dsimp only at hpl hback
  have cu := fun h => turn_s (K := K) p at_ mk (by omega) ha hb h
  have htl := turnF_len at_ mk p
  have ct := mtake_s hK (turnF at_ mk p) (by omega)
  have cs := fun h => vsame_s (K := K) (turnF at_ mk p) p h
  by_cases hz : turnF at_ mk p = p
  · rw [hz] at ct cu cs
    rw [hback] at ct
    rw [show decide (p = p) = true from decide_eq_true rfl] at cs
    clear hbl htl hz hback
    obtain ⟨k, o, f, t, l⟩ := m
    dsimp only [byV] at cp ct cm
    refine Sp.of_bodyE Tryd.func9 rfl ?_
    intro Q hQ
    simp only [List.replicate, List.length_cons, List.length_nil, Tryd.ntmps9, Nat.reduceAdd, Nat.reduceSub, List.cons_append, List.nil_append, go_sem]
    have hz : True := trivial
    have hy := yieldedV_eq
    have hL := True.intro
    repeat' (first | (refine WPV.seqK ?_; intro N hN) | (refine And.intro (hO _ (by kernel_rfl)) ?_; clear hO) | refine gA ?_ | (refine gR (M := noM) ?_; intro N hN ops hy) | (refine gDG (M := noM) ?_; intro N hN ops hy hO) | (refine WPV.condK ?_; intro A hA B hB) | (refine here ?_; refine sS ?_) | refine Both.mk ?_ ?_ | ((with_reducible refine CallO.gd 35 ?_); refine CallO.frB [] Tryd.call35 (aw) ?_) | ((with_reducible refine CallO.gd 25 ?_); refine CallO.frB [] Tryd.call25 (cl) ?_) | ((with_reducible refine CallO.gd 38 ?_); refine CallO.frB [] Tryd.call38 (cp) ?_) | ((with_reducible refine CallO.gd 41 ?_); refine CallO.toB Tryd.call41 (cu _) ?_) | ((with_reducible refine CallO.gd 37 ?_); refine CallO.frB [] Tryd.call37 (ct) ?_) | ((with_reducible refine CallO.gd 21 ?_); refine CallO.toB Tryd.call21 (cs _) ?_) | ((with_reducible refine CallO.gd 40 ?_); refine CallO.frB [] Tryd.call40 (cm) ?_) | ((with_reducible refine CallP.gd 41 ?_); refine CallP.toB Tryd.call41 (cu _) ?_) | ((with_reducible refine CallP.gd 21 ?_); refine CallP.toB Tryd.call21 (cs _) ?_) | (refine hN _ ?_; try clear hN N; try clear hy ops) | (refine hA ?_; clear hA A hB B; try simp only [hz]) | (refine hB ?_; clear hA A hB B; try simp only [hz]) | (refine gG ?_ ?_ <;> (intro hz; have h := nm hz; try (exfalso; omega)) <;> (have hz := nz hz; try subst hz)) | (rw [if_pos (show _ ∧ _ from ⟨by omega, by omega⟩)]; refine sS ?_) | refine gT ?_ | (clear hN N))
    all_goals (first | exact retZ hQ Tryd.results9 (Desc.re [] rfl) | exact retZN hQ Tryd.results9 (Desc.re [] rfl))
  · have e5 : mtake (turnF at_ mk p) = (.z, 5) := by
      unfold mtake; rw [(hbl.2 hz).1]; rfl
    rw [e5] at ct
    rw [show decide (turnF at_ mk p = p) = false from decide_eq_false hz] at cs
    clear hbl htl hz hback e5
    generalize turnF at_ mk p = g at *
    obtain ⟨k, o, f, t, l⟩ := m
    dsimp only [byV, Msg.z] at cp ct cm
    refine Sp.of_bodyE Tryd.func9 rfl ?_
    intro Q hQ
    simp only [List.replicate, List.length_cons, List.length_nil, Tryd.ntmps9, Nat.reduceAdd, Nat.reduceSub, List.cons_append, List.nil_append, go_sem]
    have hz : True := trivial
    have hy := yieldedV_eq
    have hL := True.intro
    repeat' (first | (refine WPV.seqK ?_; intro N hN) | (refine And.intro (hO _ (by kernel_rfl)) ?_; clear hO) | refine gA ?_ | (refine gR (M := noM) ?_; intro N hN ops hy) | (refine gDG (M := noM) ?_; intro N hN ops hy hO) | (refine WPV.condK ?_; intro A hA B hB) | (refine here ?_; refine sS ?_) | refine Both.mk ?_ ?_ | ((with_reducible refine CallO.gd 35 ?_); refine CallO.frB [] Tryd.call35 (aw) ?_) | ((with_reducible refine CallO.gd 25 ?_); refine CallO.frB [] Tryd.call25 (cl) ?_) | ((with_reducible refine CallO.gd 38 ?_); refine CallO.frB [] Tryd.call38 (cp) ?_) | ((with_reducible refine CallO.gd 41 ?_); refine CallO.toB Tryd.call41 (cu _) ?_) | ((with_reducible refine CallO.gd 37 ?_); refine CallO.frB [] Tryd.call37 (ct) ?_) | ((with_reducible refine CallO.gd 21 ?_); refine CallO.toB Tryd.call21 (cs _) ?_) | ((with_reducible refine CallO.gd 40 ?_); refine CallO.frB [] Tryd.call40 (cm) ?_) | ((with_reducible refine CallP.gd 41 ?_); refine CallP.toB Tryd.call41 (cu _) ?_) | ((with_reducible refine CallP.gd 21 ?_); refine CallP.toB Tryd.call21 (cs _) ?_) | (refine hN _ ?_; try clear hN N; try clear hy ops) | (refine hA ?_; clear hA A hB B; try simp only [hz]) | (refine hB ?_; clear hA A hB B; try simp only [hz]) | (refine gG ?_ ?_ <;> (intro hz; have h := nm hz; try (exfalso; omega)) <;> (have hz := nz hz; try subst hz)) | (rw [if_pos (show _ ∧ _ from ⟨by omega, by omega⟩)]; refine sS ?_) | refine gT ?_ | (clear hN N))
    all_goals (first | exact retZ hQ Tryd.results9 (Desc.re [] rfl) | exact retZN hQ Tryd.results9 (Desc.re [] rfl))
end Go.Proofs.YtgfnpcmehnjopaaDoor
end
section
namespace Go.Proofs.YtgfnpcmehnjopaaDoor
open Go Go.RowKit
set_option linter.unusedVariables false
set_option linter.unusedSimpArgs false
variable {K : Nat → Obj → Prop}
def eqB (a b : Wr) : Bool := (a.k.toList == b.k.toList && (a.v.toList == b.v.toList && a.g == b.g))
def weqL : List Wr → List Wr → Bool
  | [], [] => true
  | a :: l, b :: m => eqB a b && weqL l m
  | _, _ => false
theorem weqL_cons (a b : Wr) (l m : List Wr) : weqL (a :: l) (b :: m) = (eqB a b && weqL l m) := rfl
theorem weqL_ne : ∀ {l m : List Wr}, l.length ≠ m.length → weqL l m = false
  | [], [], h => absurd rfl h
  | a :: l, b :: m, h => by
    rw [weqL_cons, weqL_ne (l := l) (m := m) (by simpa using h), Bool.and_false]
  | [], _ :: _, _ => rfl
  | _ :: _, [], _ => rfl
set_option maxRecDepth 100000 in
set_option maxHeartbeats 1000000 in
theorem weqg_s (a b : List Wr) (ha : a.length ≤ 9223372036854775807) (hb : b.length ≤ 9223372036854775807) : Sp Tryd.prog K 60 [.sl 3 (wrl a), .sl 3 (wrl b)] [] fun u hh => u = .sc (.bool (weqL a b)) ∧ hh = [] := by
  have hga := True.intro
  have hgb := True.intro
  have q := True.intro
  by_cases hn : a.length = b.length
  · skip
    refine Sp.of_bodyE Tryd.func60 rfl ?_
    intro Q hQ
    simp only [List.replicate, List.length_cons, List.length_nil, Tryd.ntmps60, Nat.reduceAdd, Nat.reduceSub, List.cons_append, List.nil_append, go_sem]
    have hz : True := trivial
    have hy := yieldedV_eq
    have hL := And.intro @hga (And.intro @hgb (@q))
    repeat' (first | (refine WPV.seqK ?_; intro N hN) | refine gA ?_ | (refine gR (M := noM) ?_; intro N hN ops hy) | (refine gD (M := noM) ?_; intro N hN; have hy := yieldedV_eq) | (refine WPV.condK ?_; intro A hA B hB) | (refine here ?_; refine sS ?_) | refine Both.mk ?_ ?_ | (refine hN _ ?_; try clear hN N; try clear hy ops) | (refine hA ?_; clear hA A hB B; try simp only [hz]) | (refine hB ?_; clear hA A hB B; try simp only [hz]) | (refine gG ?_ ?_ <;> (intro hz; have h := nm hz; try (exfalso; omega)) <;> (have hz := nz hz; try subst hz)) | (rw [if_pos (show _ ∧ _ from ⟨by omega, by omega⟩)]; refine sS ?_) | refine gT ?_ | (clear hN N))
    clear hga hgb q
    refine WPV.loopW (α := Nat) (fun i => a.length - i) (fun i => ⟨[.sl 3 (wrl a), .sl 3 (wrl b), .any, .any, .any, .any, .any, .any, .any, .any, .any, .any, .sc (.int .i64 (a.length : Int)), .sc (.int .i64 ((i : Nat) : Int)), .any, .any, .any, .any, .any, .any, .any, .any, .any, .any, .any, .any], []⟩) (fun i => i ≤ a.length ∧ weqL a b = weqL (a.drop i) (b.drop i)) 0 Desc.weakA ⟨Nat.zero_le _, rfl⟩ (fun i hJ H => ?_)
    obtain ⟨j1, j2⟩ := hJ
    by_cases h : i < a.length
    · have h' : i < b.length := by omega
      obtain ⟨x, hx⟩ : ∃ x, a[i] = x := ⟨_, rfl⟩
      obtain ⟨y, hy2⟩ : ∃ y, b[i] = y := ⟨_, rfl⟩
      have hga : a[i]? = some x := by rw [← hx]; exact List.getElem?_eq_getElem h
      have hgb : b[i]? = some y := by rw [← hy2]; exact List.getElem?_eq_getElem h'
      rw [List.drop_eq_getElem_cons h, List.drop_eq_getElem_cons h', hx, hy2, weqL_cons] at j2
      cases q0 : eqB x y with
      | true =>
        rw [q0, Bool.true_and] at j2
        have H' := H (i + 1) ⟨h, j2⟩ (by omega)
        clear H hx hy2 j2
        obtain ⟨xk, xv, xg⟩ := x
        obtain ⟨yk, yv, yg⟩ := y
        have q : (xk.toList == yk.toList && (xv.toList == yv.toList && xg == yg)) = true := q0
        refine loopV ?_
        have hz : True := trivial
        have hy := yieldedV_eq
        have hL := And.intro @hga (And.intro @hgb (@q))
        repeat' (first | (refine WPV.seqK ?_; intro N hN) | refine gA ?_ | (refine gR (M := noM) ?_; intro N hN ops hy) | (refine gD (M := noM) ?_; intro N hN; have hy := yieldedV_eq) | (refine WPV.condK ?_; intro A hA B hB) | (refine here ?_; refine sS ?_) | refine Both.mk ?_ ?_ | (refine hN _ ?_; try clear hN N; try clear hy ops) | (refine hA ?_; clear hA A hB B; try simp only [hz]) | (refine hB ?_; clear hA A hB B; try simp only [hz]) | (refine gG ?_ ?_ <;> (intro hz; have h := nm hz; try (exfalso; omega)) <;> (have hz := nz hz; try subst hz)) | (rw [if_pos (show _ ∧ _ from ⟨by omega, by omega⟩)]; refine sS ?_) | refine gT ?_ | (clear hN N))
        all_goals (exact rndZ (Desc.re [] rfl) (H'))
      | false =>
        rw [q0, Bool.false_and] at j2
        rw [j2] at hQ
        clear H hx hy2 j2
        obtain ⟨xk, xv, xg⟩ := x
        obtain ⟨yk, yv, yg⟩ := y
        have q : (xk.toList == yk.toList && (xv.toList == yv.toList && xg == yg)) = false := q0
        refine loopV ?_
        have hz : True := trivial
        have hy := yieldedV_eq
        have hL := And.intro @hga (And.intro @hgb (@q))
        repeat' (first | (refine WPV.seqK ?_; intro N hN) | refine gA ?_ | (refine gR (M := noM) ?_; intro N hN ops hy) | (refine gD (M := noM) ?_; intro N hN; have hy := yieldedV_eq) | (refine WPV.condK ?_; intro A hA B hB) | (refine here ?_; refine sS ?_) | refine Both.mk ?_ ?_ | (refine hN _ ?_; try clear hN N; try clear hy ops) | (refine hA ?_; clear hA A hB B; try simp only [hz]) | (refine hB ?_; clear hA A hB B; try simp only [hz]) | (refine gG ?_ ?_ <;> (intro hz; have h := nm hz; try (exfalso; omega)) <;> (have hz := nz hz; try subst hz)) | (rw [if_pos (show _ ∧ _ from ⟨by omega, by omega⟩)]; refine sS ?_) | refine gT ?_ | (clear hN N))
        all_goals (first | exact retZ hQ Tryd.results60 (Desc.re [] rfl) | exact retZN hQ Tryd.results60 (Desc.re [] rfl))
    obtain rfl : i = a.length := by omega
    have e : weqL a b = true := by rw [j2, hn, List.drop_length, ← hn, List.drop_length]; rfl
    rw [e] at hQ
    clear H j2 e
    have hga := True.intro
    have hgb := True.intro
    have q := True.intro
    refine loopV ?_
    have hz : True := trivial
    have hy := yieldedV_eq
    have hL := And.intro @hga (And.intro @hgb (@q))
    repeat' (first | (refine WPV.seqK ?_; intro N hN) | refine gA ?_ | (refine gR (M := noM) ?_; intro N hN ops hy) | (refine gD (M := noM) ?_; intro N hN; have hy := yieldedV_eq) | (refine WPV.condK ?_; intro A hA B hB) | (refine here ?_; refine sS ?_) | refine Both.mk ?_ ?_ | (refine hN _ ?_; try clear hN N; try clear hy ops) | (refine hA ?_; clear hA A hB B; try simp only [hz]) | (refine hB ?_; clear hA A hB B; try simp only [hz]) | (refine gG ?_ ?_ <;> (intro hz; have h := nm hz; try (exfalso; omega)) <;> (have hz := nz hz; try subst hz)) | (rw [if_pos (show _ ∧ _ from ⟨by omega, by omega⟩)]; refine sS ?_) | refine gT ?_ | (clear hN N))
    all_goals (first | exact retZ hQ Tryd.results60 (Desc.re [] rfl) | exact retZN hQ Tryd.results60 (Desc.re [] rfl))
  · have e : weqL a b = false := weqL_ne hn
    rw [e]
    refine Sp.of_bodyE Tryd.func60 rfl ?_
    intro Q hQ
    simp only [List.replicate, List.length_cons, List.length_nil, Tryd.ntmps60, Nat.reduceAdd, Nat.reduceSub, List.cons_append, List.nil_append, go_sem]
    have hz : True := trivial
    have hy := yieldedV_eq
    have hL := And.intro @hga (And.intro @hgb (@q))
    repeat' (first | (refine WPV.seqK ?_; intro N hN) | refine gA ?_ | (refine gR (M := noM) ?_; intro N hN ops hy) | (refine gD (M := noM) ?_; intro N hN; have hy := yieldedV_eq) | (refine WPV.condK ?_; intro A hA B hB) | (refine here ?_; refine sS ?_) | refine Both.mk ?_ ?_ | (refine hN _ ?_; try clear hN N; try clear hy ops) | (refine hA ?_; clear hA A hB B; try simp only [hz]) | (refine hB ?_; clear hA A hB B; try simp only [hz]) | (refine gG ?_ ?_ <;> (intro hz; have h := nm hz; try (exfalso; omega)) <;> (have hz := nz hz; try subst hz)) | (rw [if_pos (show _ ∧ _ from ⟨by omega, by omega⟩)]; refine sS ?_) | refine gT ?_ | (clear hN N))
    all_goals (first | exact retZ hQ Tryd.results60 (Desc.re [] rfl) | exact retZN hQ Tryd.results60 (Desc.re [] rfl))
theorem bool_i (b : Bool) : ∃ i : Int, b = decide (i = 0) := by
  cases b
  · exact ⟨1, rfl⟩
  · exact ⟨0, rfl⟩
def tsameF (a b : Tx) : Bool := decide (a.o = b.o ∧ a.s = b.s ∧ (a.c.x = b.c.x ∧ a.c.y = b.c.y ∧ a.c.z = b.c.z) ∧ weqL a.w b.w = true)
set_option maxRecDepth 100000 in
set_option maxHeartbeats 4000000 in
theorem tsameg_s (a b : Tx) (h1 : a.w.length ≤ 9223372036854775807) (h2 : b.w.length ≤ 9223372036854775807) : Sp Tryd.prog K 109 [txV a, txV b] [] fun u hh => u = .sc (.bool (tsameF a b)) ∧ hh = [] := by
  have cw := fun h => Sp.lift (weqg_s (K := K) a.w b.w h1 h2) (fun _ => rfl) (fun _ => rfl) h
  unfold tsameF
  obtain ⟨iw, ew⟩ := bool_i (weqL a.w b.w)
  rw [ew] at cw ⊢
  simp only [decide_eq_true_eq]
  clear ew h1 h2
  obtain ⟨o, s, ⟨cx, cy, cz⟩, w⟩ := a
  obtain ⟨o', s', ⟨cx', cy', cz'⟩, w'⟩ := b
  dsimp only at *
  by_cases hc : cx = cx' ∧ cy = cy' ∧ cz = cz'
  · obtain ⟨rfl, rfl, rfl⟩ := hc
    have q : (cx == cx && (cy == cy && cz == cz)) = true := by simp
    refine Sp.of_bodyE Tryd.func109 rfl ?_
    intro Q hQ
    simp only [List.replicate, List.length_cons, List.length_nil, Tryd.ntmps109, Nat.reduceAdd, Nat.reduceSub, List.cons_append, List.nil_append, go_sem]
    have hz : True := trivial
    have hy := yieldedV_eq
    have hL := @q
    repeat' (first | (refine WPV.seqK ?_; intro N hN) | refine gA ?_ | (refine gR (M := noM) ?_; intro N hN ops hy) | (refine gD (M := noM) ?_; intro N hN; have hy := yieldedV_eq) | (refine WPV.condK ?_; intro A hA B hB) | (refine here ?_; refine sS ?_) | refine Both.mk ?_ ?_ | ((with_reducible refine CallO.gd 60 ?_); refine CallO.toB Tryd.call60 (cw _) ?_) | ((with_reducible refine CallP.gd 60 ?_); refine CallP.toB Tryd.call60 (cw _) ?_) | (refine hN _ ?_; try clear hN N; try clear hy ops) | (refine hA ?_; clear hA A hB B; try simp only [hz]) | (refine hB ?_; clear hA A hB B; try simp only [hz]) | (refine gG ?_ ?_ <;> (intro hz; have h := nm hz; try (exfalso; omega)) <;> (have hz := nz hz; try subst hz)) | (rw [if_pos (show _ ∧ _ from ⟨by omega, by omega⟩)]; refine sS ?_) | refine gT ?_ | (clear hN N))
    all_goals (first | exact retZ hQ Tryd.results109 (Desc.re [] rfl) | exact retZN hQ Tryd.results109 (Desc.re [] rfl))
  · have q : (cx == cx' && (cy == cy' && cz == cz')) = false := by
      cases h : (cx == cx' && (cy == cy' && cz == cz'))
      · rfl
      · exact absurd (by simpa using h) hc
    refine Sp.of_bodyE Tryd.func109 rfl ?_
    intro Q hQ
    simp only [List.replicate, List.length_cons, List.length_nil, Tryd.ntmps109, Nat.reduceAdd, Nat.reduceSub, List.cons_append, List.nil_append, go_sem]
    have hz : True := trivial
    have hy := yieldedV_eq
    have hL := @q
    repeat' (first | (refine WPV.seqK ?_; intro N hN) | refine gA ?_ | (refine gR (M := noM) ?_; intro N hN ops hy) | (refine gD (M := noM) ?_; intro N hN; have hy := yieldedV_eq) | (refine WPV.condK ?_; intro A hA B hB) | (refine here ?_; refine sS ?_) | refine Both.mk ?_ ?_ | ((with_reducible refine CallO.gd 60 ?_); refine CallO.toB Tryd.call60 (cw _) ?_) | ((with_reducible refine CallP.gd 60 ?_); refine CallP.toB Tryd.call60 (cw _) ?_) | (refine hN _ ?_; try clear hN N; try clear hy ops) | (refine hA ?_; clear hA A hB B; try simp only [hz]) | (refine hB ?_; clear hA A hB B; try simp only [hz]) | (refine gG ?_ ?_ <;> (intro hz; have h := nm hz; try (exfalso; omega)) <;> (have hz := nz hz; try subst hz)) | (rw [if_pos (show _ ∧ _ from ⟨by omega, by omega⟩)]; refine sS ?_) | refine gT ?_ | (clear hN N))
    all_goals (first | exact retZ hQ Tryd.results109 (Desc.re [] rfl) | exact retZN hQ Tryd.results109 (Desc.re [] rfl))
end Go.Proofs.YtgfnpcmehnjopaaDoor
end
section
namespace Go.Proofs.YtgfnpcmehnjopaaDoor
open Go Go.RowKit
set_option linter.unusedVariables false
set_option linter.unusedSimpArgs false
variable {K : Nat → Obj → Prop}
def teqL : List Tx → List Tx → Bool
  | [], [] => true
  | a :: l, b :: m => tsameF a b && teqL l m
  | _, _ => false
theorem teqL_cons (a b : Tx) (l m : List Tx) : teqL (a :: l) (b :: m) = (tsameF a b && teqL l m) := rfl
theorem teqL_ne : ∀ {l m : List Tx}, l.length ≠ m.length → teqL l m = false
  | [], [], h => absurd rfl h
  | a :: l, b :: m, h => by
    rw [teqL_cons, teqL_ne (l := l) (m := m) (by simpa using h), Bool.and_false]
  | [], _ :: _, _ => rfl
  | _ :: _, [], _ => rfl
set_option maxRecDepth 100000 in
set_option maxHeartbeats 2000000 in
theorem teqf_s (a b : List Tx) (ha : a.length ≤ 9223372036854775807) (hb : b.length ≤ 9223372036854775807) (wa : ∀ t ∈ a, t.w.length ≤ 9223372036854775807) (wb : ∀ t ∈ b, t.w.length ≤ 9223372036854775807) : Sp Tryd.prog K 108 [.sl 6 (txs a), .sl 6 (txs b), .fn 109 []] [] fun u hh => u = .sc (.bool (teqL a b)) ∧ hh = [] := by
  have hga := True.intro
  have hgb := True.intro
  have cs := True.intro
  by_cases hn : a.length = b.length
  · skip
    refine Sp.of_bodyE Tryd.func108 rfl ?_
    intro Q hQ
    simp only [List.replicate, List.length_cons, List.length_nil, Tryd.ntmps108, Nat.reduceAdd, Nat.reduceSub, List.cons_append, List.nil_append, go_sem]
    have hz : True := trivial
    have hy := yieldedV_eq
    have hL := And.intro @hga (@hgb)
    repeat' (first | (refine WPV.seqK ?_; intro N hN) | (refine And.intro (hO _ (by kernel_rfl)) ?_; clear hO) | refine gA ?_ | (refine gR (M := noM) ?_; intro N hN ops hy) | (refine gDG (M := noM) ?_; intro N hN ops hy hO) | (refine WPV.condK ?_; intro A hA B hB) | (refine here ?_; refine sS ?_) | refine Both.mk ?_ ?_ | ((with_reducible refine CallO.gd 109 ?_); refine CallO.frB [] Tryd.call109 (cs) ?_) | (refine hN _ ?_; try clear hN N; try clear hy ops) | (refine hA ?_; clear hA A hB B; try simp only [hz]) | (refine hB ?_; clear hA A hB B; try simp only [hz]) | (refine gG ?_ ?_ <;> (intro hz; have h := nm hz; try (exfalso; omega)) <;> (have hz := nz hz; try subst hz)) | (rw [if_pos (show _ ∧ _ from ⟨by omega, by omega⟩)]; refine sS ?_) | refine gT ?_ | (clear hN N))
    clear hga hgb cs
    refine WPV.loopW (α := Nat) (fun i => a.length - i) (fun i => ⟨[.any, .sl 6 (txs b), .fn 109 [], .any, .any, .any, .any, .any, .any, .any, .any, .any, .any, .any, .any, .sl 6 (txs a), .sc (.int .i64 (a.length : Int)), .sc (.int .i64 ((i : Nat) : Int)), .any, .any, .any, .any, .any, .any, .any, .any, .any, .any, .any, .any, .any, .any], []⟩) (fun i => i ≤ a.length ∧ teqL a b = teqL (a.drop i) (b.drop i)) 0 Desc.weakA ⟨Nat.zero_le _, rfl⟩ (fun i hJ H => ?_)
    obtain ⟨j1, j2⟩ := hJ
    by_cases h : i < a.length
    · have h' : i < b.length := by omega
      obtain ⟨x, hx⟩ : ∃ x, a[i] = x := ⟨_, rfl⟩
      obtain ⟨y, hy2⟩ : ∃ y, b[i] = y := ⟨_, rfl⟩
      have hga : a[i]? = some x := by rw [← hx]; exact List.getElem?_eq_getElem h
      have hgb : b[i]? = some y := by rw [← hy2]; exact List.getElem?_eq_getElem h'
      have cs := tsameg_s (K := K) x y (wa x (hx ▸ List.getElem_mem h)) (wb y (hy2 ▸ List.getElem_mem h'))
      rw [List.drop_eq_getElem_cons h, List.drop_eq_getElem_cons h', hx, hy2, teqL_cons] at j2
      cases q0 : tsameF x y with
      | true =>
        rw [q0] at cs
        rw [q0, Bool.true_and] at j2
        have H' := H (i + 1) ⟨h, j2⟩ (by omega)
        clear H hx hy2 j2 q0
        obtain ⟨xo, xs, ⟨x1, x2, x3⟩, xw⟩ := x
        obtain ⟨yo, ys, ⟨y1, y2, y3⟩, yw⟩ := y
        dsimp only [txV] at cs
        refine loopV ?_
        have hz : True := trivial
        have hy := yieldedV_eq
        have hL := And.intro @hga (@hgb)
        repeat' (first | (refine WPV.seqK ?_; intro N hN) | (refine And.intro (hO _ (by kernel_rfl)) ?_; clear hO) | refine gA ?_ | (refine gR (M := noM) ?_; intro N hN ops hy) | (refine gDG (M := noM) ?_; intro N hN ops hy hO) | (refine WPV.condK ?_; intro A hA B hB) | (refine here ?_; refine sS ?_) | refine Both.mk ?_ ?_ | ((with_reducible refine CallO.gd 109 ?_); refine CallO.frB [] Tryd.call109 (cs) ?_) | (refine hN _ ?_; try clear hN N; try clear hy ops) | (refine hA ?_; clear hA A hB B; try simp only [hz]) | (refine hB ?_; clear hA A hB B; try simp only [hz]) | (refine gG ?_ ?_ <;> (intro hz; have h := nm hz; try (exfalso; omega)) <;> (have hz := nz hz; try subst hz)) | (rw [if_pos (show _ ∧ _ from ⟨by omega, by omega⟩)]; refine sS ?_) | refine gT ?_ | (clear hN N))
        all_goals (exact rndZ (Desc.re [] rfl) (H'))
      | false =>
        rw [q0] at cs
        rw [q0, Bool.false_and] at j2
        rw [j2] at hQ
        clear H hx hy2 j2 q0
        obtain ⟨xo, xs, ⟨x1, x2, x3⟩, xw⟩ := x
        obtain ⟨yo, ys, ⟨y1, y2, y3⟩, yw⟩ := y
        dsimp only [txV] at cs
        refine loopV ?_
        have hz : True := trivial
        have hy := yieldedV_eq
        have hL := And.intro @hga (@hgb)
        repeat' (first | (refine WPV.seqK ?_; intro N hN) | (refine And.intro (hO _ (by kernel_rfl)) ?_; clear hO) | refine gA ?_ | (refine gR (M := noM) ?_; intro N hN ops hy) | (refine gDG (M := noM) ?_; intro N hN ops hy hO) | (refine WPV.condK ?_; intro A hA B hB) | (refine here ?_; refine sS ?_) | refine Both.mk ?_ ?_ | ((with_reducible refine CallO.gd 109 ?_); refine CallO.frB [] Tryd.call109 (cs) ?_) | (refine hN _ ?_; try clear hN N; try clear hy ops) | (refine hA ?_; clear hA A hB B; try simp only [hz]) | (refine hB ?_; clear hA A hB B; try simp only [hz]) | (refine gG ?_ ?_ <;> (intro hz; have h := nm hz; try (exfalso; omega)) <;> (have hz := nz hz; try subst hz)) | (rw [if_pos (show _ ∧ _ from ⟨by omega, by omega⟩)]; refine sS ?_) | refine gT ?_ | (clear hN N))
        all_goals (first | exact retZ hQ Tryd.results108 (Desc.re [] rfl) | exact retZN hQ Tryd.results108 (Desc.re [] rfl))
    obtain rfl : i = a.length := by omega
    have e : teqL a b = true := by rw [j2, hn, List.drop_length, ← hn, List.drop_length]; rfl
    rw [e] at hQ
    clear H j2 e
    have hga := True.intro
    have hgb := True.intro
    have cs := True.intro
    refine loopV ?_
    have hz : True := trivial
    have hy := yieldedV_eq
    have hL := And.intro @hga (@hgb)
    repeat' (first | (refine WPV.seqK ?_; intro N hN) | (refine And.intro (hO _ (by kernel_rfl)) ?_; clear hO) | refine gA ?_ | (refine gR (M := noM) ?_; intro N hN ops hy) | (refine gDG (M := noM) ?_; intro N hN ops hy hO) | (refine WPV.condK ?_; intro A hA B hB) | (refine here ?_; refine sS ?_) | refine Both.mk ?_ ?_ | ((with_reducible refine CallO.gd 109 ?_); refine CallO.frB [] Tryd.call109 (cs) ?_) | (refine hN _ ?_; try clear hN N; try clear hy ops) | (refine hA ?_; clear hA A hB B; try simp only [hz]) | (refine hB ?_; clear hA A hB B; try simp only [hz]) | (refine gG ?_ ?_ <;> (intro hz; have h := nm hz; try (exfalso; omega)) <;> (have hz := nz hz; try subst hz)) | (rw [if_pos (show _ ∧ _ from ⟨by omega, by omega⟩)]; refine sS ?_) | refine gT ?_ | (clear hN N))
    all_goals (first | exact retZ hQ Tryd.results108 (Desc.re [] rfl) | exact retZN hQ Tryd.results108 (Desc.re [] rfl))
  · have e : teqL a b = false := teqL_ne hn
    rw [e]
    refine Sp.of_bodyE Tryd.func108 rfl ?_
    intro Q hQ
    simp only [List.replicate, List.length_cons, List.length_nil, Tryd.ntmps108, Nat.reduceAdd, Nat.reduceSub, List.cons_append, List.nil_append, go_sem]
    have hz : True := trivial
    have hy := yieldedV_eq
    have hL := And.intro @hga (@hgb)
    repeat' (first | (refine WPV.seqK ?_; intro N hN) | (refine And.intro (hO _ (by kernel_rfl)) ?_; clear hO) | refine gA ?_ | (refine gR (M := noM) ?_; intro N hN ops hy) | (refine gDG (M := noM) ?_; intro N hN ops hy hO) | (refine WPV.condK ?_; intro A hA B hB) | (refine here ?_; refine sS ?_) | refine Both.mk ?_ ?_ | ((with_reducible refine CallO.gd 109 ?_); refine CallO.frB [] Tryd.call109 (cs) ?_) | (refine hN _ ?_; try clear hN N; try clear hy ops) | (refine hA ?_; clear hA A hB B; try simp only [hz]) | (refine hB ?_; clear hA A hB B; try simp only [hz]) | (refine gG ?_ ?_ <;> (intro hz; have h := nm hz; try (exfalso; omega)) <;> (have hz := nz hz; try subst hz)) | (rw [if_pos (show _ ∧ _ from ⟨by omega, by omega⟩)]; refine sS ?_) | refine gT ?_ | (clear hN N))
    all_goals (first | exact retZ hQ Tryd.results108 (Desc.re [] rfl) | exact retZN hQ Tryd.results108 (Desc.re [] rfl))
def msameF (a b : Msg) : Bool := decide (a.k = b.k ∧ a.o = b.o ∧ a.f = b.f ∧ a.t = b.t ∧ teqL a.l b.l = true)
set_option maxRecDepth 100000 in
set_option maxHeartbeats 2000000 in
theorem msame_s (a b : Msg) (ha : a.l.length ≤ 9223372036854775807) (hb : b.l.length ≤ 9223372036854775807) (wa : ∀ t ∈ a.l, t.w.length ≤ 9223372036854775807) (wb : ∀ t ∈ b.l, t.w.length ≤ 9223372036854775807) : Sp Tryd.prog K 73 [msgV a, msgV b] [] fun u hh => u = .sc (.bool (msameF a b)) ∧ hh = [] := by
  have cq := fun h => Sp.lift (teqf_s (K := K) a.l b.l ha hb wa wb) (fun _ => rfl) (fun _ => rfl) h
  unfold msameF
  obtain ⟨iw, ew⟩ := bool_i (teqL a.l b.l)
  rw [ew] at cq ⊢
  simp only [decide_eq_true_eq]
  clear ew ha hb wa wb
  obtain ⟨k, o, f, t, l⟩ := a
  obtain ⟨k', o', f', t', l'⟩ := b
  dsimp only at *
  refine Sp.of_bodyE Tryd.func73 rfl ?_
  intro Q hQ
  simp only [List.replicate, List.length_cons, List.length_nil, Tryd.ntmps73, Nat.reduceAdd, Nat.reduceSub, List.cons_append, List.nil_append, go_sem]
  have hz : True := trivial
  have hy := yieldedV_eq
  have hL := True.intro
  repeat' (first | (refine WPV.seqK ?_; intro N hN) | (refine And.intro (hO _ (by kernel_rfl)) ?_; clear hO) | refine gA ?_ | (refine gR (M := noM) ?_; intro N hN ops hy) | (refine gDG (M := noM) ?_; intro N hN ops hy hO) | (refine WPV.condK ?_; intro A hA B hB) | (refine here ?_; refine sS ?_) | refine Both.mk ?_ ?_ | ((with_reducible refine CallO.gd 108 ?_); refine CallO.toB Tryd.call108 (cq _) ?_) | ((with_reducible refine CallP.gd 108 ?_); refine CallP.toB Tryd.call108 (cq _) ?_) | (refine hN _ ?_; try clear hN N; try clear hy ops) | (refine hA ?_; clear hA A hB B; try simp only [hz]) | (refine hB ?_; clear hA A hB B; try simp only [hz]) | (refine gG ?_ ?_ <;> (intro hz; have h := nm hz; try (exfalso; omega)) <;> (have hz := nz hz; try subst hz)) | (rw [if_pos (show _ ∧ _ from ⟨by omega, by omega⟩)]; refine sS ?_) | refine gT ?_ | (clear hN N))
  all_goals (first | exact retZ hQ Tryd.results73 (Desc.re [] rfl) | exact retZN hQ Tryd.results73 (Desc.re [] rfl))
end Go.Proofs.YtgfnpcmehnjopaaDoor
end
section
namespace Go.Proofs.YtgfnpcmehnjopaaDoor
open Go Go.RowKit
set_option linter.unusedVariables false
set_option linter.unusedSimpArgs false
variable {K : Nat → Obj → Prop}
def bT : Tx := ⟨1, 1, ⟨0, 0, 0⟩, [⟨⟨#[97]⟩, ⟨#[120]⟩, false⟩]⟩
def bM : Msg := ⟨3, 2, 3, 300, []⟩
def bN : Msg := ⟨1, 1, 0, 0, [bT]⟩
theorem mread_z (p : List UInt8) (h : (mread p).2 ≠ 0) : (mread p).1 = .z := by
  unfold mread at h ⊢
  split
  · rfl
  rename_i h1; rw [if_neg h1] at h
  split
  · rfl
  rename_i h2; rw [if_neg h2] at h
  split
  · rfl
  rename_i h3; rw [if_neg h3] at h
  split
  · rfl
  rename_i h4; rw [if_neg h4] at h
  split
  · rfl
  rename_i h5; rw [if_neg h5] at h
  split
  · rfl
  rename_i h6; rw [if_neg h6] at h
  exact absurd rfl h
theorem mtake_seal (l : List UInt8) : mtake (sealF l) = mread l := by
  unfold mtake; rw [openF_seal]; exact if_neg (by simp)
structure MAw (B D G S T : List UInt8) : Prop where
  pB : mput bM = (B, 0)
  tB : mtake B = (bM, 0)
  pD : mput bN = (D, 0)
  tD : mtake D = (bN, 0)
  gD : turnF 20 5 D = G
  tG : mtake G = (.z, 5)
  t1 : mtake [1] = (.z, 2)
  sS : sealF [2, 3, 0] = S
  tS : mtake S = (.z, 9)
  sT : sealF [3, 0, 0, 1] = T
  tT : mtake T = (.z, 1)
  lB : B.length = 9
  kB : B.take 5 = [3, 2, 3, 172, 2]
  lD : D.length = 18
  lS : S.length = 7
  lT : T.length = 8
  lG : G.length = 18
theorem maw : ∃ B D G S T, MAw B D G S T := by
  have c1 : mchk bM = 0 := by decide +kernel
  have c2 : mchk bN = 0 := by decide +kernel
  have b1 : vput bM.k.toNat ++ vput bM.o.toNat ++ mbody bM = [3, 2, 3, 172, 2] := by decide +kernel
  have b2 : vput bN.k.toNat ++ vput bN.o.toNat ++ mbody bN = [1, 1, 1, 1, 1, 0, 0, 0, 1, 0, 1, 97, 2, 120] := by decide +kernel
  have p1 := mput_ok c1
  have p2 := mput_ok c2
  rw [b1] at p1
  rw [b2] at p2
  have t1 := mtake_mput c1
  have t2 := mtake_mput c2
  rw [p1] at t1
  rw [p2] at t2
  have hne : turnF 20 5 (sealF [1, 1, 1, 1, 1, 0, 0, 0, 1, 0, 1, 97, 2, 120]) ≠ sealF [1, 1, 1, 1, 1, 0, 0, 0, 1, 0, 1, 97, 2, 120] := by decide +kernel
  have hb := (bursts_law [1, 1, 1, 1, 1, 0, 0, 0, 1, 0, 1, 97, 2, 120] 20 5).2 hne
  have r1 : (mread [2, 3, 0]).2 = 9 := by decide +kernel
  have r2 : (mread [3, 0, 0, 1]).2 = 1 := by decide +kernel
  refine ⟨_, _, _, _, _, p1, t1, p2, t2, rfl, ?_, ?_, rfl, ?_, rfl, ?_, by rw [sealF_len]; rfl, rfl, by rw [sealF_len]; rfl, by rw [sealF_len]; rfl, by rw [sealF_len]; rfl, by rw [turnF_len, sealF_len]; rfl⟩
  · unfold mtake; rw [hb.1]; rfl
  · unfold mtake; rfl
  · rw [mtake_seal]; exact Prod.ext (mread_z _ (by rw [r1]; decide)) r1
  · rw [mtake_seal]; exact Prod.ext (mread_z _ (by rw [r2]; decide)) r2
set_option maxRecDepth 100000 in
set_option maxHeartbeats 40000000 in
theorem awake13_s (hK : KT K) : Sp Tryd.prog K 35 [] [] fun u hh => u = .sc (.bool true) ∧ hh = [] := by
  obtain ⟨B, D, G, S, T, pB, tB, pD, tD, gD, tG, t1, sS, tS, sT, tT, lB, kB, lD, lS, lT, lG⟩ := maw
  have cp1 := Sp.lift (mput_s hK bM (by decide) (by decide)) (fun _ => rfl) (fun _ => rfl)
  have cp2 := Sp.lift (mput_s hK bN (by decide) (by decide)) (fun _ => rfl) (fun _ => rfl)
  rw [pB] at cp1
  rw [pD] at cp2
  have ct1 := Sp.lift (mtake_s hK B (by omega)) (fun _ => rfl) (fun _ => rfl)
  have ct2 := Sp.lift (mtake_s hK D (by omega)) (fun _ => rfl) (fun _ => rfl)
  have ct3 := Sp.lift (mtake_s hK G (by omega)) (fun _ => rfl) (fun _ => rfl)
  have ct4 := Sp.lift (mtake_s hK [1] (by decide)) (fun _ => rfl) (fun _ => rfl)
  have ct5 := Sp.lift (mtake_s hK S (by omega)) (fun _ => rfl) (fun _ => rfl)
  have ct6 := Sp.lift (mtake_s hK T (by omega)) (fun _ => rfl) (fun _ => rfl)
  rw [tB] at ct1
  rw [tD] at ct2
  rw [tG] at ct3
  rw [t1] at ct4
  rw [tS] at ct5
  rw [tT] at ct6
  have cu := fun h => turn_s (K := K) D 20 5 (by omega) (by decide) (by decide) h
  rw [gD] at cu
  have cs1 := fun h => seal_s hK [2, 3, 0] (by decide) h
  have cs2 := fun h => seal_s hK [3, 0, 0, 1] (by decide) h
  rw [sS] at cs1
  rw [sT] at cs2
  have cv := fun h => vsame_s (K := K) (B.take 5) [3, 2, 3, 172, 2] h
  rw [show decide (B.take 5 = [3, 2, 3, 172, 2]) = true from decide_eq_true kB] at cv
  have ck1 := Sp.lift (mchk_s (K := K) ⟨2, 0, 0, 0, []⟩ (by decide) (by decide)) (fun _ => rfl) (fun _ => rfl)
  have ck2 := Sp.lift (mchk_s (K := K) ⟨2, 0, 1, 0, []⟩ (by decide) (by decide)) (fun _ => rfl) (fun _ => rfl)
  have ck3 := Sp.lift (mchk_s (K := K) ⟨1, 0, 0, 0, []⟩ (by decide) (by decide)) (fun _ => rfl) (fun _ => rfl)
  rw [show mchk ⟨2, 0, 0, 0, []⟩ = 0 by decide +kernel] at ck1
  rw [show mchk ⟨2, 0, 1, 0, []⟩ = 3 by decide +kernel] at ck2
  rw [show mchk ⟨1, 0, 0, 0, []⟩ = 1 by decide +kernel] at ck3
  have cm1 := Sp.lift (msame_s (K := K) bM bM (by decide) (by decide) (by decide) (by decide)) (fun _ => rfl) (fun _ => rfl)
  have cm2 := Sp.lift (msame_s (K := K) bM bN (by decide) (by decide) (by decide) (by decide)) (fun _ => rfl) (fun _ => rfl)
  rw [show msameF bM bM = true by decide +kernel] at cm1
  rw [show msameF bM bN = false by decide +kernel] at cm2
  clear pB tB pD tD gD tG t1 sS tS sT tT kB lS lT lG
  dsimp only [byV, bM, bN, bT, Msg.z, txs, Tx.d, wrl, Wr.d, List.map] at *
  refine Sp.of_bodyE Tryd.func35 rfl ?_
  intro Q hQ
  simp only [List.replicate, List.length_cons, List.length_nil, Tryd.ntmps35, Nat.reduceAdd, Nat.reduceSub, List.cons_append, List.nil_append, go_sem]
  have hz : True := trivial
  have hy := yieldedV_eq
  have hL := And.intro @lB (@lD)
  repeat' (first | (refine WPV.seqK ?_; intro N hN) | (refine And.intro (hO _ (by kernel_rfl)) ?_; clear hO) | refine gA ?_ | (refine gR (M := noM) ?_; intro N hN ops hy) | (refine gDG (M := noM) ?_; intro N hN ops hy hO) | (refine WPV.condK ?_; intro A hA B hB) | (refine here ?_; refine sS ?_) | refine Both.mk ?_ ?_ | ((with_reducible refine CallO.gd 38 ?_); first | refine CallO.toB Tryd.call38 (cp1 _) ?_ | refine CallO.toB Tryd.call38 (cp2 _) ?_) | ((with_reducible refine CallO.gd 37 ?_); first | refine CallO.toB Tryd.call37 (ct1 _) ?_ | refine CallO.toB Tryd.call37 (ct2 _) ?_ | refine CallO.toB Tryd.call37 (ct3 _) ?_ | refine CallO.toB Tryd.call37 (ct4 _) ?_ | refine CallO.toB Tryd.call37 (ct5 _) ?_ | refine CallO.toB Tryd.call37 (ct6 _) ?_) | ((with_reducible refine CallO.gd 41 ?_); refine CallO.toB Tryd.call41 (cu _) ?_) | ((with_reducible refine CallO.gd 36 ?_); first | refine CallO.toB Tryd.call36 (cs1 _) ?_ | refine CallO.toB Tryd.call36 (cs2 _) ?_) | ((with_reducible refine CallO.gd 21 ?_); refine CallO.toB Tryd.call21 (cv _) ?_) | ((with_reducible refine CallO.gd 39 ?_); first | refine CallO.toB Tryd.call39 (ck1 _) ?_ | refine CallO.toB Tryd.call39 (ck2 _) ?_ | refine CallO.toB Tryd.call39 (ck3 _) ?_) | ((with_reducible refine CallO.gd 73 ?_); first | refine CallO.toB Tryd.call73 (cm1 _) ?_ | refine CallO.toB Tryd.call73 (cm2 _) ?_) | ((with_reducible refine CallP.gd 38 ?_); first | refine CallP.toB Tryd.call38 (cp1 _) ?_ | refine CallP.toB Tryd.call38 (cp2 _) ?_) | ((with_reducible refine CallP.gd 37 ?_); first | refine CallP.toB Tryd.call37 (ct1 _) ?_ | refine CallP.toB Tryd.call37 (ct2 _) ?_ | refine CallP.toB Tryd.call37 (ct3 _) ?_ | refine CallP.toB Tryd.call37 (ct4 _) ?_ | refine CallP.toB Tryd.call37 (ct5 _) ?_ | refine CallP.toB Tryd.call37 (ct6 _) ?_) | ((with_reducible refine CallP.gd 41 ?_); refine CallP.toB Tryd.call41 (cu _) ?_) | ((with_reducible refine CallP.gd 36 ?_); first | refine CallP.toB Tryd.call36 (cs1 _) ?_ | refine CallP.toB Tryd.call36 (cs2 _) ?_) | ((with_reducible refine CallP.gd 21 ?_); refine CallP.toB Tryd.call21 (cv _) ?_) | ((with_reducible refine CallP.gd 39 ?_); first | refine CallP.toB Tryd.call39 (ck1 _) ?_ | refine CallP.toB Tryd.call39 (ck2 _) ?_ | refine CallP.toB Tryd.call39 (ck3 _) ?_) | ((with_reducible refine CallP.gd 73 ?_); first | refine CallP.toB Tryd.call73 (cm1 _) ?_ | refine CallP.toB Tryd.call73 (cm2 _) ?_) | (refine hN _ ?_; try clear hN N; try clear hy ops) | (refine hA ?_; clear hA A hB B; try simp only [hz]) | (refine hB ?_; clear hA A hB B; try simp only [hz]) | (refine gG ?_ ?_ <;> (intro hz; have h := nm hz; try (exfalso; omega)) <;> (have hz := nz hz; try subst hz)) | (rw [if_pos (show _ ∧ _ from ⟨by omega, by omega⟩)]; refine sS ?_) | refine gT ?_ | (clear hN N))
  all_goals (first | exact retZ hQ Tryd.results35 (Desc.re [] rfl) | exact retZN hQ Tryd.results35 (Desc.re [] rfl))
end Go.Proofs.YtgfnpcmehnjopaaDoor
end
section
namespace Go.Proofs.YtgfnpcmehnjopaaDoor
open Go Go.RowKit
set_option linter.unusedVariables false
set_option linter.unusedSimpArgs false
def KW (W : World) : Nat → Obj → Prop := fun b x => b = 1 ∧ W.heap[b]? = some x
abbrev FT (W : World) : Fr := ⟨fun _ _ => False, KW W⟩
theorem DenD.kn {F F' : Fr} {φ : List Pl} {w : World} {r : Value} {x : D} (hs : F'.shut = F.shut) (h : DenD F φ w r x) : DenD F' φ w r x := by
  induction h with
  | sc h => exact .sc h
  | nil => exact .nil
  | sl c hn hcap hk hc hd ih => exact .sl c hn hcap hk (fun i j hi hj => by have := hc i j hi hj; unfold cellP prot at this ⊢; rw [hs]; exact this) ih
theorem Den.kn {W w : World} {φ : List Pl} {r : Value} {x : D} (h : Den F0 φ w r (.d x)) : Den (FT W) φ w r (.d x) := by
  cases h with
  | d h => exact .d (DenD.kn (F := F0) rfl h)
theorem kt_tab {W : World} (ht : Tab W) : KT (KW W) := by
  have h0 := ht 0 (by decide)
  unfold World.cell? at h0
  dsimp only at h0
  split at h0
  · rename_i arr T fr hb
    refine ⟨arr, T, fr, ⟨rfl, hb⟩, fun i hi => ?_⟩
    have := ht i hi
    unfold World.cell? at this
    dsimp only at this
    rw [hb] at this
    simpa using this
  · cases h0
theorem Inv.kw (W : World) : Inv (FT W) [] W [] :=
  ⟨rfl, fun i p o h => by simp at h, fun i j p q b h => by simp at h, fun b o h => h.elim, fun i p b o h => by simp at h, fun b x h => ⟨h.2, fun i p h => by simp at h⟩⟩
theorem Sp.runT {P : Program} {f : FuncId} {vs : List V} {R : V → List Ho → Prop} {w : World} {args : Array Value} (hs : Sp P (KW w) f vs [] R) (hd : DenL (FT w) [] w args.toList vs) :
    Calls P f args w fun e w' => ∃ u v h', e = .returned u ∧ Below w.heap.size w w' ∧ (∃ F φ, Den F φ w' u v) ∧ R v h' := by
  refine (hs _ _ w args rfl (Inv.kw w) hd).mono ?_
  rintro e w' ⟨u, φ', v, h', rfl, he, hi, hd, hr⟩
  exact ⟨u, v, h', rfl, he.below, ⟨_, _, hd⟩, hr⟩
end Go.Proofs.YtgfnpcmehnjopaaDoor
end
