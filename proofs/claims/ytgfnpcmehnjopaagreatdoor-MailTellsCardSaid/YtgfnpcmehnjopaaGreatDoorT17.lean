/- Parts of the proofs, joined: MalT. -/
import Derived.Test.YtgfnpcmehnjopaaGreatDoorT16
namespace Go.Proofs.YtgfnpcmehnjopaaGreatDoor
open Go Go.RowKit
set_option linter.unusedVariables false
set_option linter.unusedSimpArgs false
variable {K : Nat → Obj → Prop}
set_option maxRecDepth 100000 in
set_option maxHeartbeats 4000000 in
theorem nums2_x (b : List UInt8) (hl : b.length ≤ 1000000000) {p p2 : UInt64} {m m2 : Nat} {er er2 : Int} (ht : tk b = (p, m, er)) (ht2 : tk (b.drop m) = (p2, m2, er2)) (k o f t : Int) (l : List Tx) : Sp Tryz.prog K 47 [.sl 1 (bs b), .hs true 1 1 0 2] [.cells (msgC ⟨k, o, f, t, l⟩), .cells [.ptr 0 2, .ptr 0 3]] fun u hh =>
    u = .sc (.int .i64 (if er ≠ 0 then er else if 4611686018427387903 < p.toNat then 1 else if er2 ≠ 0 then er2 else if 4611686018427387903 < p2.toNat then 1 else if m + m2 < b.length then 3 else 0)) ∧
    hh = [.cells (msgC ⟨k, o, if er = 0 ∧ p.toNat ≤ 4611686018427387903 then p.toNat else f, if er = 0 ∧ p.toNat ≤ 4611686018427387903 ∧ er2 = 0 ∧ p2.toNat ≤ 4611686018427387903 then p2.toNat else t, l⟩), .cells [.ptr 0 2, .ptr 0 3]] := by
  have hm := tk_le b
  have hm2 := tk_le (b.drop m)
  rw [ht] at hm
  rw [ht2, List.length_drop] at hm2
  dsimp only at hm hm2
  have ct := fun h => vtake_s (K := K) ht hl h
  have ct2 := fun h => vtake_s (K := K) ht2 (by rw [List.length_drop]; omega) h
  clear ht ht2
  have hdl : (b.drop m).length = b.length - m := List.length_drop
  have hdl2 : ((b.drop m).drop m2).length = b.length - m - m2 := by rw [List.length_drop, List.length_drop]
  refine Sp.of_bodyE Tryz.func47 rfl ?_
  intro Q hQ
  simp only [List.replicate, List.length_cons, List.length_nil, Tryz.ntmps47, Nat.reduceAdd, Nat.reduceSub, List.cons_append, List.nil_append, go_sem]
  have hz : True := trivial
  have hy := yieldedV_eq
  have hL := True.intro
  repeat' (first | (refine WPV.seqK ?_; intro N hN) | (refine And.intro (hO _ (by kernel_rfl)) ?_; clear hO) | refine gA ?_ | (refine gR (M := noM) ?_; intro N hN ops hy) | (refine gDG (M := noM) ?_; intro N hN ops hy hO) | (refine WPV.condK ?_; intro A hA B hB) | (refine here ?_; refine sS ?_) | refine Both.mk ?_ ?_ | ((with_reducible refine CallO.gd 24 ?_); first | refine CallO.toB Tryz.call24 (ct _) ?_ | refine CallO.toB Tryz.call24 (ct2 _) ?_) | ((with_reducible refine CallP.gd 24 ?_); first | refine CallP.toB Tryz.call24 (ct _) ?_ | refine CallP.toB Tryz.call24 (ct2 _) ?_) | (refine hN _ ?_; try clear hN N; try clear hy ops) | (refine hA ?_; clear hA A hB B; try simp only [hz]) | (refine hB ?_; clear hA A hB B; try simp only [hz]) | (refine gG ?_ ?_ <;> (intro hz; have h := nm hz; try (exfalso; omega)) <;> (have hz := nz hz; try subst hz)) | (rw [if_pos (show _ ∧ _ from ⟨by omega, by omega⟩)]; refine sS ?_) | refine gT ?_ | (clear hN N))
  refine loopV ?_
  have hz : True := trivial
  have hy := yieldedV_eq
  have hL := True.intro
  repeat' (first | (refine WPV.seqK ?_; intro N hN) | (refine And.intro (hO _ (by kernel_rfl)) ?_; clear hO) | refine gA ?_ | (refine gR (M := noM) ?_; intro N hN ops hy) | (refine gDG (M := noM) ?_; intro N hN ops hy hO) | (refine WPV.condK ?_; intro A hA B hB) | (refine here ?_; refine sS ?_) | refine Both.mk ?_ ?_ | ((with_reducible refine CallO.gd 24 ?_); first | refine CallO.toB Tryz.call24 (ct _) ?_ | refine CallO.toB Tryz.call24 (ct2 _) ?_) | ((with_reducible refine CallP.gd 24 ?_); first | refine CallP.toB Tryz.call24 (ct _) ?_ | refine CallP.toB Tryz.call24 (ct2 _) ?_) | (refine hN _ ?_; try clear hN N; try clear hy ops) | (refine hA ?_; clear hA A hB B; try simp only [hz]) | (refine hB ?_; clear hA A hB B; try simp only [hz]) | (refine gG ?_ ?_ <;> (intro hz; have h := nm hz; try (exfalso; omega)) <;> (have hz := nz hz; try subst hz)) | (rw [if_pos (show _ ∧ _ from ⟨by omega, by omega⟩)]; refine sS ?_) | refine gT ?_ | (clear hN N))
  all_goals (try (first | exact retZ hQ Tryz.results47 (Desc.re [some 0, some 1] rfl) | exact retZN hQ Tryz.results47 (Desc.re [some 0, some 1] rfl)))
  refine loopV ?_
  have hz : True := trivial
  have hy := yieldedV_eq
  have hL := True.intro
  repeat' (first | (refine WPV.seqK ?_; intro N hN) | (refine And.intro (hO _ (by kernel_rfl)) ?_; clear hO) | refine gA ?_ | (refine gR (M := noM) ?_; intro N hN ops hy) | (refine gDG (M := noM) ?_; intro N hN ops hy hO) | (refine WPV.condK ?_; intro A hA B hB) | (refine here ?_; refine sS ?_) | refine Both.mk ?_ ?_ | ((with_reducible refine CallO.gd 24 ?_); first | refine CallO.toB Tryz.call24 (ct _) ?_ | refine CallO.toB Tryz.call24 (ct2 _) ?_) | ((with_reducible refine CallP.gd 24 ?_); first | refine CallP.toB Tryz.call24 (ct _) ?_ | refine CallP.toB Tryz.call24 (ct2 _) ?_) | (refine hN _ ?_; try clear hN N; try clear hy ops) | (refine hA ?_; clear hA A hB B; try simp only [hz]) | (refine hB ?_; clear hA A hB B; try simp only [hz]) | (refine gG ?_ ?_ <;> (intro hz; have h := nm hz; try (exfalso; omega)) <;> (have hz := nz hz; try subst hz)) | (rw [if_pos (show _ ∧ _ from ⟨by omega, by omega⟩)]; refine sS ?_) | refine gT ?_ | (clear hN N))
  all_goals (try (first | exact retZ hQ Tryz.results47 (Desc.re [some 0, some 1] rfl) | exact retZN hQ Tryz.results47 (Desc.re [some 0, some 1] rfl)))
  refine loopV ?_
  have hz : True := trivial
  have hy := yieldedV_eq
  have hL := True.intro
  repeat' (first | (refine WPV.seqK ?_; intro N hN) | (refine And.intro (hO _ (by kernel_rfl)) ?_; clear hO) | refine gA ?_ | (refine gR (M := noM) ?_; intro N hN ops hy) | (refine gDG (M := noM) ?_; intro N hN ops hy hO) | (refine WPV.condK ?_; intro A hA B hB) | (refine here ?_; refine sS ?_) | refine Both.mk ?_ ?_ | ((with_reducible refine CallO.gd 24 ?_); first | refine CallO.toB Tryz.call24 (ct _) ?_ | refine CallO.toB Tryz.call24 (ct2 _) ?_) | ((with_reducible refine CallP.gd 24 ?_); first | refine CallP.toB Tryz.call24 (ct _) ?_ | refine CallP.toB Tryz.call24 (ct2 _) ?_) | (refine hN _ ?_; try clear hN N; try clear hy ops) | (refine hA ?_; clear hA A hB B; try simp only [hz]) | (refine hB ?_; clear hA A hB B; try simp only [hz]) | (refine gG ?_ ?_ <;> (intro hz; have h := nm hz; try (exfalso; omega)) <;> (have hz := nz hz; try subst hz)) | (rw [if_pos (show _ ∧ _ from ⟨by omega, by omega⟩)]; refine sS ?_) | refine gT ?_ | (clear hN N))
  all_goals (first | exact retZ hQ Tryz.results47 (Desc.re [some 0, some 1] rfl) | exact retZN hQ Tryz.results47 (Desc.re [some 0, some 1] rfl))
set_option maxRecDepth 100000 in
set_option maxHeartbeats 1000000 in
theorem ktake1_s (b : List UInt8) (hl : b.length ≤ 1000000) (k o f t : Int) (l : List Tx) : Sp Tryz.prog K 41 [.sl 1 (bs b), .ptr 0 0] [.cells (msgC ⟨k, o, f, t, l⟩)] fun u hh => u = .sc (.int .i64 (unpackF b).2) ∧ hh = [.cells (msgC ⟨k, o, f, t, (unpackF b).1⟩)] := by
  have cu := unpack_s (K := K) b hl
  obtain ⟨l2, e, hu⟩ : ∃ l e, unpackF b = (l, e) := ⟨_, _, rfl⟩
  rw [hu] at cu ⊢
  dsimp only at cu ⊢
  clear hu
  refine Sp.of_bodyE Tryz.func41 rfl ?_
  intro Q hQ
  simp only [List.replicate, List.length_cons, List.length_nil, Tryz.ntmps41, Nat.reduceAdd, Nat.reduceSub, List.cons_append, List.nil_append, go_sem]
  have hz : True := trivial
  have hy := yieldedV_eq
  have hL := True.intro
  repeat' (first | (refine WPV.seqK ?_; intro N hN) | (refine And.intro (hO _ (by kernel_rfl)) ?_; clear hO) | refine gA ?_ | (refine gR (M := noM) ?_; intro N hN ops hy) | (refine gDG (M := noM) ?_; intro N hN ops hy hO) | (refine WPV.condK ?_; intro A hA B hB) | (refine here ?_; refine sS ?_) | refine Both.mk ?_ ?_ | ((with_reducible refine CallO.gd 42 ?_); refine CallO.frB [] Tryz.call42 (cu) ?_) | (refine hN _ ?_; try clear hN N; try clear hy ops) | (refine hA ?_; clear hA A hB B; try simp only [hz]) | (refine hB ?_; clear hA A hB B; try simp only [hz]) | (refine gG ?_ ?_ <;> (intro hz; have h := nm hz; try (exfalso; omega)) <;> (have hz := nz hz; try subst hz)) | (rw [if_pos (show _ ∧ _ from ⟨by omega, by omega⟩)]; refine sS ?_) | refine gT ?_ | (clear hN N))
  all_goals (first | exact retZ hQ Tryz.results41 (Desc.re [some 0] rfl) | exact retZN hQ Tryz.results41 (Desc.re [some 0] rfl))
set_option maxRecDepth 100000 in
set_option maxHeartbeats 1000000 in
theorem ktake2_s (b : List UInt8) (hl : b.length ≤ 1000000) {n : Nat} {r : List UInt8} {e : Int} (h1 : num1 b = (n, r, e)) (k o f t : Int) (l : List Tx) : Sp Tryz.prog K 46 [.sl 1 (bs b), .ptr 0 0] [.cells (msgC ⟨k, o, f, t, l⟩)] fun u hh => u = .sc (.int .i64 (if e ≠ 0 then e else if r ≠ [] then 3 else 0)) ∧ hh = [.cells (msgC ⟨k, o, f, if e ≠ 0 then t else n, l⟩)] := by
  have cn := nums1_s (K := K) b (by omega) h1 k o f t l
  generalize (if e ≠ 0 then e else if r ≠ [] then 3 else 0) = q at *
  generalize (if e ≠ 0 then t else (n : Int)) = t2 at *
  refine Sp.of_bodyE Tryz.func46 rfl ?_
  intro Q hQ
  simp only [List.replicate, List.length_cons, List.length_nil, Tryz.ntmps46, Nat.reduceAdd, Nat.reduceSub, List.cons_append, List.nil_append, go_sem]
  have hz : True := trivial
  have hy := yieldedV_eq
  have hL := True.intro
  repeat' (first | (refine WPV.seqK ?_; intro N hN) | (refine And.intro (hO _ (by kernel_rfl)) ?_; clear hO) | refine gA ?_ | (refine gR (M := inM [101]) ?_; intro N hN ops hy) | (refine gDG (M := inM [101]) ?_; intro N hN ops hy hO) | (refine WPV.condK ?_; intro A hA B hB) | (refine here ?_; refine sS ?_) | refine Both.mk ?_ ?_ | ((with_reducible refine CallO.gd 47 ?_); refine CallO.frB [0, 1] Tryz.call47 (cn) ?_) | ((with_reducible refine CallP.gd 47 ?_); refine CallP.frB [0, 1] 0 Tryz.call47 (cn) ?_) | (refine hN _ ?_; try clear hN N; try clear hy ops) | (refine hA ?_; clear hA A hB B; try simp only [hz]) | (refine hB ?_; clear hA A hB B; try simp only [hz]) | (refine gG ?_ ?_ <;> (intro hz; have h := nm hz; try (exfalso; omega)) <;> (have hz := nz hz; try subst hz)) | (rw [if_pos (show _ ∧ _ from ⟨by omega, by omega⟩)]; refine sS ?_) | refine gT ?_ | (clear hN N))
  all_goals (first | exact retZ hQ Tryz.results46 (Desc.re [some 0] rfl) | exact retZN hQ Tryz.results46 (Desc.re [some 0] rfl))
theorem num1_of {b : List UInt8} {p : UInt64} {m : Nat} {er : Int} (h : tk b = (p, m, er)) : num1 b = if er ≠ 0 then (0, b, er) else if 4611686018427387903 < p.toNat then (0, b, 1) else (p.toNat, b.drop m, 0) := by unfold num1; rw [h]
set_option maxRecDepth 100000 in
set_option maxHeartbeats 1000000 in
theorem ktake3_s (b : List UInt8) (hl : b.length ≤ 1000000) (k o f t : Int) (l : List Tx) : ∃ f2 t2, Sp Tryz.prog K 50 [.sl 1 (bs b), .ptr 0 0] [.cells (msgC ⟨k, o, f, t, l⟩)] (fun u hh => u = .sc (.int .i64 (if (num1 b).2.2 ≠ 0 then (num1 b).2.2 else if (num1 (num1 b).2.1).2.2 ≠ 0 then (num1 (num1 b).2.1).2.2 else if (num1 (num1 b).2.1).2.1 ≠ [] then 3 else 0)) ∧ hh = [.cells (msgC ⟨k, o, f2, t2, l⟩)]) ∧
    ((num1 b).2.2 = 0 → (num1 (num1 b).2.1).2.2 = 0 → f2 = (num1 b).1 ∧ t2 = (num1 (num1 b).2.1).1) := by
  obtain ⟨p, m, er, ht⟩ : ∃ p m er, tk b = (p, m, er) := ⟨_, _, _, rfl⟩
  obtain ⟨p2, m2, er2, ht2⟩ : ∃ p2 m2 er2, tk (b.drop m) = (p2, m2, er2) := ⟨_, _, _, rfl⟩
  have cn := nums2_x (K := K) b (by omega) ht ht2 k o f t l
  have h1 := num1_of ht
  have h2 := num1_of ht2
  have hm := tk_le b
  have hm2 := tk_le (b.drop m)
  rw [ht] at hm
  rw [ht2, List.length_drop] at hm2
  dsimp only at hm hm2
  have hlen : ((b.drop m).drop m2).length = b.length - (m + m2) := by rw [List.drop_drop, List.length_drop]
  have hp := fun (h : 0 < b.length - (m + m2)) => List.length_pos_iff.1 (by rw [hlen]; exact h : 0 < ((b.drop m).drop m2).length)
  have hz := fun (h : b.length - (m + m2) = 0) => List.length_eq_zero_iff.1 (by rw [hlen]; exact h : ((b.drop m).drop m2).length = 0)
  have eE : (if er ≠ 0 then er else if 4611686018427387903 < p.toNat then (1 : Int) else if er2 ≠ 0 then er2 else if 4611686018427387903 < p2.toNat then 1 else if m + m2 < b.length then 3 else 0) = (if (num1 b).2.2 ≠ 0 then (num1 b).2.2 else if (num1 (num1 b).2.1).2.2 ≠ 0 then (num1 (num1 b).2.1).2.2 else if (num1 (num1 b).2.1).2.1 ≠ [] then 3 else 0) ∧
      ((num1 b).2.2 = 0 → (num1 (num1 b).2.1).2.2 = 0 → (er = 0 ∧ p.toNat ≤ 4611686018427387903 ∧ er2 = 0 ∧ p2.toNat ≤ 4611686018427387903) ∧ (num1 b).1 = p.toNat ∧ (num1 (num1 b).2.1).1 = p2.toNat) := by
    by_cases c1 : er ≠ 0
    · rw [if_pos c1] at h1
      rw [h1]
      exact ⟨by dsimp only; rw [if_pos c1, if_pos c1], fun h => absurd h c1⟩
    rw [if_neg c1] at h1
    by_cases c2 : 4611686018427387903 < p.toNat
    · rw [if_pos c2] at h1
      rw [h1]
      exact ⟨by dsimp only; rw [if_neg c1, if_pos c2, if_pos (show (1 : Int) ≠ 0 by decide)], fun h => absurd h (show ¬ (1 : Int) = 0 by decide)⟩
    rw [if_neg c2] at h1
    rw [h1]
    dsimp only
    rw [if_neg c1, if_neg c2]
    by_cases c3 : er2 ≠ 0
    · rw [if_pos c3] at h2
      rw [h2]
      exact ⟨by dsimp only; rw [if_pos c3, if_neg (by simp), if_pos c3], fun _ h => absurd h c3⟩
    rw [if_neg c3] at h2
    by_cases c4 : 4611686018427387903 < p2.toNat
    · rw [if_pos c4] at h2
      rw [h2]
      exact ⟨by dsimp only; rw [if_neg c3, if_pos c4, if_neg (by simp), if_pos (show (1 : Int) ≠ 0 by decide)], fun _ h => absurd h (show ¬ (1 : Int) = 0 by decide)⟩
    rw [if_neg c4] at h2
    rw [h2]
    dsimp only
    refine ⟨?_, fun _ _ => ⟨⟨Decidable.not_not.1 c1, by omega, Decidable.not_not.1 c3, by omega⟩, rfl, rfl⟩⟩
    rw [if_neg c3, if_neg c4]
    simp only [ne_eq, not_true_eq_false, if_false]
    by_cases c5 : m + m2 < b.length
    · rw [if_pos c5, if_pos (hp (by omega))]
    · rw [if_neg c5, if_neg (by rw [hz (by omega)]; simp)]
  obtain ⟨e1, e2⟩ := eE
  rw [e1] at cn
  have e3 : ∀ f2 t2 : Int, (if er = 0 ∧ p.toNat ≤ 4611686018427387903 then (p.toNat : Int) else f) = f2 → (if er = 0 ∧ p.toNat ≤ 4611686018427387903 ∧ er2 = 0 ∧ p2.toNat ≤ 4611686018427387903 then (p2.toNat : Int) else t) = t2 → (num1 b).2.2 = 0 → (num1 (num1 b).2.1).2.2 = 0 → f2 = (num1 b).1 ∧ t2 = (num1 (num1 b).2.1).1 := fun f2 t2 h1 h2 g1 g2 => by
    obtain ⟨a1, a2, a3⟩ := e2 g1 g2
    rw [if_pos ⟨a1.1, a1.2.1⟩] at h1
    rw [if_pos a1] at h2
    rw [a2, a3]
    exact ⟨h1.symm, h2.symm⟩
  generalize hf2 : (if er = 0 ∧ p.toNat ≤ 4611686018427387903 then (p.toNat : Int) else f) = f2 at *
  generalize ht3 : (if er = 0 ∧ p.toNat ≤ 4611686018427387903 ∧ er2 = 0 ∧ p2.toNat ≤ 4611686018427387903 then (p2.toNat : Int) else t) = t2 at *
  refine ⟨f2, t2, ?_, e3 f2 t2 rfl rfl⟩
  clear e1 e2 e3 h1 h2 hp hz hlen hf2 ht3
  generalize (if (num1 b).2.2 ≠ 0 then (num1 b).2.2 else if (num1 (num1 b).2.1).2.2 ≠ 0 then (num1 (num1 b).2.1).2.2 else if (num1 (num1 b).2.1).2.1 ≠ [] then 3 else 0) = q at *
  refine Sp.of_bodyE Tryz.func50 rfl ?_
  intro Q hQ
  simp only [List.replicate, List.length_cons, List.length_nil, Tryz.ntmps50, Nat.reduceAdd, Nat.reduceSub, List.cons_append, List.nil_append, go_sem]
  have hz : True := trivial
  have hy := yieldedV_eq
  have hL := True.intro
  repeat' (first | (refine WPV.seqK ?_; intro N hN) | (refine And.intro (hO _ (by kernel_rfl)) ?_; clear hO) | refine gA ?_ | (refine gR (M := inM [101]) ?_; intro N hN ops hy) | (refine gDG (M := inM [101]) ?_; intro N hN ops hy hO) | (refine WPV.condK ?_; intro A hA B hB) | (refine here ?_; refine sS ?_) | refine Both.mk ?_ ?_ | ((with_reducible refine CallO.gd 47 ?_); refine CallO.frB [0, 1] Tryz.call47 (cn) ?_) | ((with_reducible refine CallP.gd 47 ?_); refine CallP.frB [0, 1] 0 Tryz.call47 (cn) ?_) | (refine hN _ ?_; try clear hN N; try clear hy ops) | (refine hA ?_; clear hA A hB B; try simp only [hz]) | (refine hB ?_; clear hA A hB B; try simp only [hz]) | (refine gG ?_ ?_ <;> (intro hz; have h := nm hz; try (exfalso; omega)) <;> (have hz := nz hz; try subst hz)) | (rw [if_pos (show _ ∧ _ from ⟨by omega, by omega⟩)]; refine sS ?_) | refine gT ?_ | (clear hN N))
  all_goals (first | exact retZ hQ Tryz.results50 (Desc.re [some 0] rfl) | exact retZN hQ Tryz.results50 (Desc.re [some 0] rfl))
theorem openF_len (b : List UInt8) : (openF b).1.length ≤ b.length := by
  unfold openF
  split
  · simp
  split
  · rw [List.length_take]; omega
  · simp
theorem Sp.wkHp {P : Program} {f : FuncId} {vs : List V} {h h0 : List Ho} {R : V → List Ho → Prop} (hw : WkH h h0) (hs : Sp P K f vs h0 R) : Sp P K f vs h R := by
  intro F φ w args hK hi hd
  refine hs F φ w args hK ⟨by rw [hi.len]; exact hw.len, fun i p o hp ho => ?_, hi.apart, hi.frB, hi.frO, hi.frK⟩ hd
  obtain ⟨o0, h1, h2⟩ := hw.ok i o ho
  exact h2 F φ w p (hi.ok i p o0 hp h1)
def KTk (K : Nat → Obj → Prop) (f : FuncId) (k vn : Nat) (r : List UInt8) : Prop := ∃ mm : Msg, Sp Tryz.prog K f [.sl 1 (bs r), .ptr 0 0] [.cells (msgC ⟨k, vn, 0, 0, []⟩)] (fun u hh => u = .sc (.int .i64 (mparts k vn r).2) ∧ hh = [.cells (msgC mm)]) ∧ ((mparts k vn r).2 = 0 → mm = (mparts k vn r).1)
theorem kt1 (vn : Nat) (r : List UInt8) (hl : r.length ≤ 1000000) : KTk K 41 1 vn r := by
  have ck := ktake1_s (K := K) r hl 1 vn 0 0 []
  unfold KTk
  rw [mparts1]
  exact ⟨_, ck, fun _ => rfl⟩
theorem kt2 (vn : Nat) (r : List UInt8) (hl : r.length ≤ 1000000) : KTk K 46 2 vn r := by
  obtain ⟨m1, r2, ee, hn1⟩ : ∃ n r' e, num1 r = (n, r', e) := ⟨_, _, _, rfl⟩
  have ck := ktake2_s (K := K) r hl hn1 2 vn 0 0 []
  unfold KTk
  rw [mparts2, hn1]
  dsimp only
  by_cases h1 : ee ≠ 0
  · rw [if_pos h1] at ck ⊢
    exact ⟨_, ck, fun h => absurd h h1⟩
  · rw [if_neg h1] at ck ⊢
    by_cases h2 : r2 ≠ []
    · rw [if_pos h2] at ck ⊢
      exact ⟨_, ck, fun h => absurd h (show ¬ (3 : Int) = 0 by decide)⟩
    · rw [if_neg h2] at ck ⊢
      rw [if_neg h1] at ck
      exact ⟨_, ck, fun _ => rfl⟩
theorem kt3 (vn : Nat) (r : List UInt8) (hl : r.length ≤ 1000000) : KTk K 50 3 vn r := by
  obtain ⟨f2, t2, ck, h⟩ := ktake3_s (K := K) r hl 3 vn 0 0 []
  unfold KTk
  rw [mparts3]
  by_cases h1 : (num1 r).2.2 ≠ 0
  · rw [if_pos h1] at ck ⊢
    exact ⟨_, ck, fun h => absurd h h1⟩
  rw [if_neg h1] at ck ⊢
  by_cases h2 : (num1 (num1 r).2.1).2.2 ≠ 0
  · rw [if_pos h2] at ck ⊢
    exact ⟨_, ck, fun h => absurd h h2⟩
  rw [if_neg h2] at ck ⊢
  obtain ⟨rfl, rfl⟩ := h (Decidable.not_not.1 h1) (Decidable.not_not.1 h2)
  by_cases h3 : (num1 (num1 r).2.1).2.1 ≠ []
  · rw [if_pos h3] at ck ⊢
    exact ⟨_, ck, fun h => absurd h (show ¬ (3 : Int) = 0 by decide)⟩
  · rw [if_neg h3] at ck ⊢
    exact ⟨_, ck, fun _ => rfl⟩
theorem mparts_bd {k o : Nat} {r : List UInt8} {m : Msg} (h : mparts k o r = (m, 0)) : m.l.length ≤ 4 ∧ ∀ t ∈ m.l, t.w.length ≤ 16 := by
  unfold mparts at h
  split at h
  · simp only [Prod.mk.injEq] at h
    obtain ⟨rfl, h⟩ := h
    obtain ⟨_, h1, h2⟩ := pack_unpack (b := r) (l := (unpackF r).1) (Prod.ext rfl h)
    exact ⟨h1, fun t ht => (check_ok (h2 t ht)).2.2.2.1⟩
  have e : m.l = [] := by
    repeat' split at h
    all_goals (simp only [Prod.mk.injEq] at h; rw [← h.1])
  rw [e]; simp
set_option maxRecDepth 100000 in
set_option maxHeartbeats 8000000 in
theorem mtake_s (hK : KT K) (b : List UInt8) (hl : b.length ≤ 1000000) : Sp Tryz.prog K 8 [.sl 1 (bs b)] [] fun u hh => u = .tup [msgV (mtake b).1, .sc (.int .i64 (mtake b).2)] ∧ hh = [] := by
  obtain ⟨p, e, ho⟩ : ∃ p e, openF b = (p, e) := ⟨_, _, rfl⟩
  have co := fun h => open_s hK b (by omega) h
  have hpl : p.length ≤ b.length := by
    have h := openF_len b
    rw [ho] at h; exact h
  rw [ho] at co
  dsimp only at co
  obtain ⟨u, n, e1, ht⟩ : ∃ u n e, tk p = (u, n, e) := ⟨_, _, _, rfl⟩
  obtain ⟨v, n2, e2, ht2⟩ : ∃ v n2 e2, tk (p.drop n) = (v, n2, e2) := ⟨_, _, _, rfl⟩
  have hm := tk_le p
  have hm2 := tk_le (p.drop n)
  rw [ht] at hm
  rw [ht2, List.length_drop] at hm2
  dsimp only at hm hm2
  have ct := fun h => vtake_s (K := K) ht (by omega) h
  have ct2 := fun h => vtake_s (K := K) ht2 (by rw [List.length_drop]; omega) h
  have hdl : (p.drop n).length = p.length - n := List.length_drop
  have hu64 := UInt64.toNat_lt u
  by_cases good : ¬ (e = 0 ∧ e1 = 0 ∧ (1 ≤ u.toNat ∧ u.toNat ≤ 3) ∧ e2 = 0 ∧ v.toNat < 3)
  · have e0 : mtake b = (.z, if e ≠ 0 then e else if e1 ≠ 0 then e1 else if u.toNat < 1 ∨ 3 < u.toNat then 3 else if e2 ≠ 0 then e2 else 9) := by
      unfold mtake
      rw [ho]
      dsimp only
      split
      · rfl
      unfold mread
      rw [ht]
      dsimp only
      split
      · rfl
      split
      · rfl
      rw [ht2]
      dsimp only
      split
      · rfl
      rw [if_pos (by omega)]
    rw [e0]
    clear e0 ht ht2 ho
    have ck := True.intro
    have cc := True.intro
    refine Sp.of_bodyE Tryz.func8 rfl ?_
    intro Q hQ
    simp only [List.replicate, List.length_cons, List.length_nil, Tryz.ntmps8, Nat.reduceAdd, Nat.reduceSub, List.cons_append, List.nil_append, go_sem]
    have hz : True := trivial
    have hy := yieldedV_eq
    have hL := True.intro
    repeat' (first | (refine WPV.seqK ?_; intro N hN) | (refine And.intro (hO _ (by kernel_rfl)) ?_; clear hO) | refine gA ?_ | (refine gR (M := noM) ?_; intro N hN ops hy) | (refine gDG (M := noM) ?_; intro N hN ops hy hO) | (refine WPV.condK ?_; intro A hA B hB) | (refine here ?_; refine sS ?_) | refine Both.mk ?_ ?_ | ((with_reducible refine CallO.gd 23 ?_); refine CallO.toB Tryz.call23 (co _) ?_) | ((with_reducible refine CallO.gd 24 ?_); first | refine CallO.toB Tryz.call24 (ct _) ?_ | refine CallO.toB Tryz.call24 (ct2 _) ?_) | ((with_reducible refine CallO.gd 20 ?_); refine CallO.toB Tryz.call20 (kinds_s _) ?_) | ((with_reducible refine CallO.gd 41 ?_); refine CallO.frB [1] Tryz.call41 (ck) ?_) | ((with_reducible refine CallO.gd 46 ?_); refine CallO.frB [1] Tryz.call46 (ck) ?_) | ((with_reducible refine CallO.gd 50 ?_); refine CallO.frB [1] Tryz.call50 (ck) ?_) | ((with_reducible refine CallO.gd 12 ?_); refine CallO.frB [] Tryz.call12 (cc) ?_) | ((with_reducible refine CallP.gd 23 ?_); refine CallP.toB Tryz.call23 (co _) ?_) | ((with_reducible refine CallP.gd 24 ?_); first | refine CallP.toB Tryz.call24 (ct _) ?_ | refine CallP.toB Tryz.call24 (ct2 _) ?_) | ((with_reducible refine CallP.gd 20 ?_); refine CallP.toB Tryz.call20 (kinds_s _) ?_) | ((with_reducible refine CallP.gd 41 ?_); refine CallP.frB [1] 0 Tryz.call41 (ck) ?_) | ((with_reducible refine CallP.gd 46 ?_); refine CallP.frB [1] 0 Tryz.call46 (ck) ?_) | ((with_reducible refine CallP.gd 50 ?_); refine CallP.frB [1] 0 Tryz.call50 (ck) ?_) | (refine hN _ ?_; try clear hN N; try clear hy ops) | (refine hA ?_; clear hA A hB B; try simp only [hz]) | (refine hB ?_; clear hA A hB B; try simp only [hz]) | (refine gG ?_ ?_ <;> (intro hz; have h := nm hz; try (exfalso; omega)) <;> (have hz := nz hz; try subst hz)) | (rw [if_pos (show _ ∧ _ from ⟨by omega, by omega⟩)]; refine sS ?_) | refine gT ?_ | (clear hN N))
    all_goals (try unfold Msg.z at hQ)
    all_goals (first | exact retZ hQ Tryz.results8 (Desc.re [] rfl) | exact retZN hQ Tryz.results8 (Desc.re [] rfl))
  obtain ⟨rfl, rfl, hu, rfl, hv⟩ := Decidable.not_not.1 good
  obtain ⟨r, hr⟩ : ∃ r, (p.drop n).drop n2 = r := ⟨_, rfl⟩
  have hrl : r.length ≤ b.length := by rw [← hr, List.length_drop]; omega
  have e0 : mtake b = if (mparts u.toNat v.toNat r).2 ≠ 0 then (.z, (mparts u.toNat v.toNat r).2) else if mchk (mparts u.toNat v.toNat r).1 ≠ 0 then (.z, mchk (mparts u.toNat v.toNat r).1) else ((mparts u.toNat v.toNat r).1, 0) := by
    unfold mtake; rw [ho]; dsimp only; rw [if_neg (by simp), mread_of ht rfl hu ht2 hr hv]
  rw [e0]
  clear e0 ho ht ht2 good
  generalize u.toNat = un at *
  generalize v.toNat = vn at *
  have hbd := fun m h => mparts_bd (k := un) (o := vn) (r := r) (m := m) h
  obtain ⟨mp, ee, hmp⟩ : ∃ m e, mparts un vn r = (m, e) := ⟨_, _, rfl⟩
  rcases (show un = 1 ∨ un = 2 ∨ un = 3 by omega) with rfl | rfl | rfl
  · skip
    obtain ⟨mm, ck, hmm⟩ := kt1 (K := K) vn r (by omega)
    rw [show ((1 : Nat) : Int) = 1 from rfl] at ck ct
    have ck := Sp.wkHp (h := [.cells [.sc (.int .i64 1), .sc (.int .i64 (vn : Int)), .sc (.int .i64 0), .sc (.int .i64 0), .sc (.slice none 0 0)]]) (WkH.cells (Wk.same (Wk.same (Wk.same (Wk.same (Wk.null Wk.nil))))) WkH.nil) ck
    rw [hmp] at ck hmm ⊢
    dsimp only at ck hmm ⊢
    by_cases hee : ee ≠ 0
    · rw [if_pos hee]
      have cc := True.intro
      clear hmp hbd hmm
      obtain ⟨zk, zo, zf, zt, zl⟩ := mm
      refine Sp.of_bodyE Tryz.func8 rfl ?_
      intro Q hQ
      simp only [List.replicate, List.length_cons, List.length_nil, Tryz.ntmps8, Nat.reduceAdd, Nat.reduceSub, List.cons_append, List.nil_append, go_sem]
      have hz : True := trivial
      have hy := yieldedV_eq
      have hL := @hr
      repeat' (first | (refine WPV.seqK ?_; intro N hN) | (refine And.intro (hO _ (by kernel_rfl)) ?_; clear hO) | refine gA ?_ | (refine gR (M := noM) ?_; intro N hN ops hy) | (refine gDG (M := noM) ?_; intro N hN ops hy hO) | (refine WPV.condK ?_; intro A hA B hB) | (refine here ?_; refine sS ?_) | refine Both.mk ?_ ?_ | ((with_reducible refine CallO.gd 23 ?_); refine CallO.toB Tryz.call23 (co _) ?_) | ((with_reducible refine CallO.gd 24 ?_); first | refine CallO.toB Tryz.call24 (ct _) ?_ | refine CallO.toB Tryz.call24 (ct2 _) ?_) | ((with_reducible refine CallO.gd 20 ?_); refine CallO.toB Tryz.call20 (kinds_s _) ?_) | ((with_reducible refine CallO.gd 41 ?_); refine CallO.frB [1] Tryz.call41 (ck) ?_) | ((with_reducible refine CallO.gd 46 ?_); refine CallO.frB [1] Tryz.call46 (ck) ?_) | ((with_reducible refine CallO.gd 50 ?_); refine CallO.frB [1] Tryz.call50 (ck) ?_) | ((with_reducible refine CallO.gd 12 ?_); refine CallO.frB [] Tryz.call12 (cc) ?_) | ((with_reducible refine CallP.gd 23 ?_); refine CallP.toB Tryz.call23 (co _) ?_) | ((with_reducible refine CallP.gd 24 ?_); first | refine CallP.toB Tryz.call24 (ct _) ?_ | refine CallP.toB Tryz.call24 (ct2 _) ?_) | ((with_reducible refine CallP.gd 20 ?_); refine CallP.toB Tryz.call20 (kinds_s _) ?_) | ((with_reducible refine CallP.gd 41 ?_); refine CallP.frB [1] 0 Tryz.call41 (ck) ?_) | ((with_reducible refine CallP.gd 46 ?_); refine CallP.frB [1] 0 Tryz.call46 (ck) ?_) | ((with_reducible refine CallP.gd 50 ?_); refine CallP.frB [1] 0 Tryz.call50 (ck) ?_) | (refine hN _ ?_; try clear hN N; try clear hy ops) | (refine hA ?_; clear hA A hB B; try simp only [hz]) | (refine hB ?_; clear hA A hB B; try simp only [hz]) | (refine gG ?_ ?_ <;> (intro hz; have h := nm hz; try (exfalso; omega)) <;> (have hz := nz hz; try subst hz)) | (rw [if_pos (show _ ∧ _ from ⟨by omega, by omega⟩)]; refine sS ?_) | refine gT ?_ | (clear hN N))
      all_goals (try unfold Msg.z at hQ)
      all_goals (first | exact retZ hQ Tryz.results8 (Desc.re [] rfl) | exact retZN hQ Tryz.results8 (Desc.re [] rfl))
    · rw [if_neg hee]
      have hee := Decidable.not_not.1 hee
      subst hee
      have hmm := hmm rfl
      subst hmm
      obtain ⟨b4, bw⟩ := hbd _ hmp
      have cc := mchk_s (K := K) mm (by omega) (fun t ht => by have := bw t ht; omega)
      clear hmp hbd bw
      generalize mchk mm = q at *
      obtain ⟨zk, zo, zf, zt, zl⟩ := mm
      dsimp only at b4
      refine Sp.of_bodyE Tryz.func8 rfl ?_
      intro Q hQ
      simp only [List.replicate, List.length_cons, List.length_nil, Tryz.ntmps8, Nat.reduceAdd, Nat.reduceSub, List.cons_append, List.nil_append, go_sem]
      have hz : True := trivial
      have hy := yieldedV_eq
      have hL := @hr
      repeat' (first | (refine WPV.seqK ?_; intro N hN) | (refine And.intro (hO _ (by kernel_rfl)) ?_; clear hO) | refine gA ?_ | (refine gR (M := noM) ?_; intro N hN ops hy) | (refine gDG (M := noM) ?_; intro N hN ops hy hO) | (refine WPV.condK ?_; intro A hA B hB) | (refine here ?_; refine sS ?_) | refine Both.mk ?_ ?_ | ((with_reducible refine CallO.gd 23 ?_); refine CallO.toB Tryz.call23 (co _) ?_) | ((with_reducible refine CallO.gd 24 ?_); first | refine CallO.toB Tryz.call24 (ct _) ?_ | refine CallO.toB Tryz.call24 (ct2 _) ?_) | ((with_reducible refine CallO.gd 20 ?_); refine CallO.toB Tryz.call20 (kinds_s _) ?_) | ((with_reducible refine CallO.gd 41 ?_); refine CallO.frB [1] Tryz.call41 (ck) ?_) | ((with_reducible refine CallO.gd 46 ?_); refine CallO.frB [1] Tryz.call46 (ck) ?_) | ((with_reducible refine CallO.gd 50 ?_); refine CallO.frB [1] Tryz.call50 (ck) ?_) | ((with_reducible refine CallO.gd 12 ?_); refine CallO.frB [] Tryz.call12 (cc) ?_) | ((with_reducible refine CallP.gd 23 ?_); refine CallP.toB Tryz.call23 (co _) ?_) | ((with_reducible refine CallP.gd 24 ?_); first | refine CallP.toB Tryz.call24 (ct _) ?_ | refine CallP.toB Tryz.call24 (ct2 _) ?_) | ((with_reducible refine CallP.gd 20 ?_); refine CallP.toB Tryz.call20 (kinds_s _) ?_) | ((with_reducible refine CallP.gd 41 ?_); refine CallP.frB [1] 0 Tryz.call41 (ck) ?_) | ((with_reducible refine CallP.gd 46 ?_); refine CallP.frB [1] 0 Tryz.call46 (ck) ?_) | ((with_reducible refine CallP.gd 50 ?_); refine CallP.frB [1] 0 Tryz.call50 (ck) ?_) | (refine hN _ ?_; try clear hN N; try clear hy ops) | (refine hA ?_; clear hA A hB B; try simp only [hz]) | (refine hB ?_; clear hA A hB B; try simp only [hz]) | (refine gG ?_ ?_ <;> (intro hz; have h := nm hz; try (exfalso; omega)) <;> (have hz := nz hz; try subst hz)) | (rw [if_pos (show _ ∧ _ from ⟨by omega, by omega⟩)]; refine sS ?_) | refine gT ?_ | (clear hN N))
      all_goals (first | (rw [if_pos (show q ≠ 0 by omega)] at hQ; dsimp only [Msg.z] at hQ) | rw [if_neg (show ¬ q ≠ 0 by omega)] at hQ)
      all_goals (first | exact retZ hQ Tryz.results8 (Desc.re [] rfl) | exact retZN hQ Tryz.results8 (Desc.re [] rfl))
  · skip
    obtain ⟨mm, ck, hmm⟩ := kt2 (K := K) vn r (by omega)
    rw [show ((2 : Nat) : Int) = 2 from rfl] at ck ct
    have ck := Sp.wkHp (h := [.cells [.sc (.int .i64 2), .sc (.int .i64 (vn : Int)), .sc (.int .i64 0), .sc (.int .i64 0), .sc (.slice none 0 0)]]) (WkH.cells (Wk.same (Wk.same (Wk.same (Wk.same (Wk.null Wk.nil))))) WkH.nil) ck
    rw [hmp] at ck hmm ⊢
    dsimp only at ck hmm ⊢
    by_cases hee : ee ≠ 0
    · rw [if_pos hee]
      have cc := True.intro
      clear hmp hbd hmm
      obtain ⟨zk, zo, zf, zt, zl⟩ := mm
      refine Sp.of_bodyE Tryz.func8 rfl ?_
      intro Q hQ
      simp only [List.replicate, List.length_cons, List.length_nil, Tryz.ntmps8, Nat.reduceAdd, Nat.reduceSub, List.cons_append, List.nil_append, go_sem]
      have hz : True := trivial
      have hy := yieldedV_eq
      have hL := @hr
      repeat' (first | (refine WPV.seqK ?_; intro N hN) | (refine And.intro (hO _ (by kernel_rfl)) ?_; clear hO) | refine gA ?_ | (refine gR (M := noM) ?_; intro N hN ops hy) | (refine gDG (M := noM) ?_; intro N hN ops hy hO) | (refine WPV.condK ?_; intro A hA B hB) | (refine here ?_; refine sS ?_) | refine Both.mk ?_ ?_ | ((with_reducible refine CallO.gd 23 ?_); refine CallO.toB Tryz.call23 (co _) ?_) | ((with_reducible refine CallO.gd 24 ?_); first | refine CallO.toB Tryz.call24 (ct _) ?_ | refine CallO.toB Tryz.call24 (ct2 _) ?_) | ((with_reducible refine CallO.gd 20 ?_); refine CallO.toB Tryz.call20 (kinds_s _) ?_) | ((with_reducible refine CallO.gd 41 ?_); refine CallO.frB [1] Tryz.call41 (ck) ?_) | ((with_reducible refine CallO.gd 46 ?_); refine CallO.frB [1] Tryz.call46 (ck) ?_) | ((with_reducible refine CallO.gd 50 ?_); refine CallO.frB [1] Tryz.call50 (ck) ?_) | ((with_reducible refine CallO.gd 12 ?_); refine CallO.frB [] Tryz.call12 (cc) ?_) | ((with_reducible refine CallP.gd 23 ?_); refine CallP.toB Tryz.call23 (co _) ?_) | ((with_reducible refine CallP.gd 24 ?_); first | refine CallP.toB Tryz.call24 (ct _) ?_ | refine CallP.toB Tryz.call24 (ct2 _) ?_) | ((with_reducible refine CallP.gd 20 ?_); refine CallP.toB Tryz.call20 (kinds_s _) ?_) | ((with_reducible refine CallP.gd 41 ?_); refine CallP.frB [1] 0 Tryz.call41 (ck) ?_) | ((with_reducible refine CallP.gd 46 ?_); refine CallP.frB [1] 0 Tryz.call46 (ck) ?_) | ((with_reducible refine CallP.gd 50 ?_); refine CallP.frB [1] 0 Tryz.call50 (ck) ?_) | (refine hN _ ?_; try clear hN N; try clear hy ops) | (refine hA ?_; clear hA A hB B; try simp only [hz]) | (refine hB ?_; clear hA A hB B; try simp only [hz]) | (refine gG ?_ ?_ <;> (intro hz; have h := nm hz; try (exfalso; omega)) <;> (have hz := nz hz; try subst hz)) | (rw [if_pos (show _ ∧ _ from ⟨by omega, by omega⟩)]; refine sS ?_) | refine gT ?_ | (clear hN N))
      all_goals (try unfold Msg.z at hQ)
      all_goals (first | exact retZ hQ Tryz.results8 (Desc.re [] rfl) | exact retZN hQ Tryz.results8 (Desc.re [] rfl))
    · rw [if_neg hee]
      have hee := Decidable.not_not.1 hee
      subst hee
      have hmm := hmm rfl
      subst hmm
      obtain ⟨b4, bw⟩ := hbd _ hmp
      have cc := mchk_s (K := K) mm (by omega) (fun t ht => by have := bw t ht; omega)
      clear hmp hbd bw
      generalize mchk mm = q at *
      obtain ⟨zk, zo, zf, zt, zl⟩ := mm
      dsimp only at b4
      refine Sp.of_bodyE Tryz.func8 rfl ?_
      intro Q hQ
      simp only [List.replicate, List.length_cons, List.length_nil, Tryz.ntmps8, Nat.reduceAdd, Nat.reduceSub, List.cons_append, List.nil_append, go_sem]
      have hz : True := trivial
      have hy := yieldedV_eq
      have hL := @hr
      repeat' (first | (refine WPV.seqK ?_; intro N hN) | (refine And.intro (hO _ (by kernel_rfl)) ?_; clear hO) | refine gA ?_ | (refine gR (M := noM) ?_; intro N hN ops hy) | (refine gDG (M := noM) ?_; intro N hN ops hy hO) | (refine WPV.condK ?_; intro A hA B hB) | (refine here ?_; refine sS ?_) | refine Both.mk ?_ ?_ | ((with_reducible refine CallO.gd 23 ?_); refine CallO.toB Tryz.call23 (co _) ?_) | ((with_reducible refine CallO.gd 24 ?_); first | refine CallO.toB Tryz.call24 (ct _) ?_ | refine CallO.toB Tryz.call24 (ct2 _) ?_) | ((with_reducible refine CallO.gd 20 ?_); refine CallO.toB Tryz.call20 (kinds_s _) ?_) | ((with_reducible refine CallO.gd 41 ?_); refine CallO.frB [1] Tryz.call41 (ck) ?_) | ((with_reducible refine CallO.gd 46 ?_); refine CallO.frB [1] Tryz.call46 (ck) ?_) | ((with_reducible refine CallO.gd 50 ?_); refine CallO.frB [1] Tryz.call50 (ck) ?_) | ((with_reducible refine CallO.gd 12 ?_); refine CallO.frB [] Tryz.call12 (cc) ?_) | ((with_reducible refine CallP.gd 23 ?_); refine CallP.toB Tryz.call23 (co _) ?_) | ((with_reducible refine CallP.gd 24 ?_); first | refine CallP.toB Tryz.call24 (ct _) ?_ | refine CallP.toB Tryz.call24 (ct2 _) ?_) | ((with_reducible refine CallP.gd 20 ?_); refine CallP.toB Tryz.call20 (kinds_s _) ?_) | ((with_reducible refine CallP.gd 41 ?_); refine CallP.frB [1] 0 Tryz.call41 (ck) ?_) | ((with_reducible refine CallP.gd 46 ?_); refine CallP.frB [1] 0 Tryz.call46 (ck) ?_) | ((with_reducible refine CallP.gd 50 ?_); refine CallP.frB [1] 0 Tryz.call50 (ck) ?_) | (refine hN _ ?_; try clear hN N; try clear hy ops) | (refine hA ?_; clear hA A hB B; try simp only [hz]) | (refine hB ?_; clear hA A hB B; try simp only [hz]) | (refine gG ?_ ?_ <;> (intro hz; have h := nm hz; try (exfalso; omega)) <;> (have hz := nz hz; try subst hz)) | (rw [if_pos (show _ ∧ _ from ⟨by omega, by omega⟩)]; refine sS ?_) | refine gT ?_ | (clear hN N))
      all_goals (first | (rw [if_pos (show q ≠ 0 by omega)] at hQ; dsimp only [Msg.z] at hQ) | rw [if_neg (show ¬ q ≠ 0 by omega)] at hQ)
      all_goals (first | exact retZ hQ Tryz.results8 (Desc.re [] rfl) | exact retZN hQ Tryz.results8 (Desc.re [] rfl))
  · skip
    obtain ⟨mm, ck, hmm⟩ := kt3 (K := K) vn r (by omega)
    rw [show ((3 : Nat) : Int) = 3 from rfl] at ck ct
    have ck := Sp.wkHp (h := [.cells [.sc (.int .i64 3), .sc (.int .i64 (vn : Int)), .sc (.int .i64 0), .sc (.int .i64 0), .sc (.slice none 0 0)]]) (WkH.cells (Wk.same (Wk.same (Wk.same (Wk.same (Wk.null Wk.nil))))) WkH.nil) ck
    rw [hmp] at ck hmm ⊢
    dsimp only at ck hmm ⊢
    by_cases hee : ee ≠ 0
    · rw [if_pos hee]
      have cc := True.intro
      clear hmp hbd hmm
      obtain ⟨zk, zo, zf, zt, zl⟩ := mm
      refine Sp.of_bodyE Tryz.func8 rfl ?_
      intro Q hQ
      simp only [List.replicate, List.length_cons, List.length_nil, Tryz.ntmps8, Nat.reduceAdd, Nat.reduceSub, List.cons_append, List.nil_append, go_sem]
      have hz : True := trivial
      have hy := yieldedV_eq
      have hL := @hr
      repeat' (first | (refine WPV.seqK ?_; intro N hN) | (refine And.intro (hO _ (by kernel_rfl)) ?_; clear hO) | refine gA ?_ | (refine gR (M := noM) ?_; intro N hN ops hy) | (refine gDG (M := noM) ?_; intro N hN ops hy hO) | (refine WPV.condK ?_; intro A hA B hB) | (refine here ?_; refine sS ?_) | refine Both.mk ?_ ?_ | ((with_reducible refine CallO.gd 23 ?_); refine CallO.toB Tryz.call23 (co _) ?_) | ((with_reducible refine CallO.gd 24 ?_); first | refine CallO.toB Tryz.call24 (ct _) ?_ | refine CallO.toB Tryz.call24 (ct2 _) ?_) | ((with_reducible refine CallO.gd 20 ?_); refine CallO.toB Tryz.call20 (kinds_s _) ?_) | ((with_reducible refine CallO.gd 41 ?_); refine CallO.frB [1] Tryz.call41 (ck) ?_) | ((with_reducible refine CallO.gd 46 ?_); refine CallO.frB [1] Tryz.call46 (ck) ?_) | ((with_reducible refine CallO.gd 50 ?_); refine CallO.frB [1] Tryz.call50 (ck) ?_) | ((with_reducible refine CallO.gd 12 ?_); refine CallO.frB [] Tryz.call12 (cc) ?_) | ((with_reducible refine CallP.gd 23 ?_); refine CallP.toB Tryz.call23 (co _) ?_) | ((with_reducible refine CallP.gd 24 ?_); first | refine CallP.toB Tryz.call24 (ct _) ?_ | refine CallP.toB Tryz.call24 (ct2 _) ?_) | ((with_reducible refine CallP.gd 20 ?_); refine CallP.toB Tryz.call20 (kinds_s _) ?_) | ((with_reducible refine CallP.gd 41 ?_); refine CallP.frB [1] 0 Tryz.call41 (ck) ?_) | ((with_reducible refine CallP.gd 46 ?_); refine CallP.frB [1] 0 Tryz.call46 (ck) ?_) | ((with_reducible refine CallP.gd 50 ?_); refine CallP.frB [1] 0 Tryz.call50 (ck) ?_) | (refine hN _ ?_; try clear hN N; try clear hy ops) | (refine hA ?_; clear hA A hB B; try simp only [hz]) | (refine hB ?_; clear hA A hB B; try simp only [hz]) | (refine gG ?_ ?_ <;> (intro hz; have h := nm hz; try (exfalso; omega)) <;> (have hz := nz hz; try subst hz)) | (rw [if_pos (show _ ∧ _ from ⟨by omega, by omega⟩)]; refine sS ?_) | refine gT ?_ | (clear hN N))
      all_goals (try unfold Msg.z at hQ)
      all_goals (first | exact retZ hQ Tryz.results8 (Desc.re [] rfl) | exact retZN hQ Tryz.results8 (Desc.re [] rfl))
    · rw [if_neg hee]
      have hee := Decidable.not_not.1 hee
      subst hee
      have hmm := hmm rfl
      subst hmm
      obtain ⟨b4, bw⟩ := hbd _ hmp
      have cc := mchk_s (K := K) mm (by omega) (fun t ht => by have := bw t ht; omega)
      clear hmp hbd bw
      generalize mchk mm = q at *
      obtain ⟨zk, zo, zf, zt, zl⟩ := mm
      dsimp only at b4
      refine Sp.of_bodyE Tryz.func8 rfl ?_
      intro Q hQ
      simp only [List.replicate, List.length_cons, List.length_nil, Tryz.ntmps8, Nat.reduceAdd, Nat.reduceSub, List.cons_append, List.nil_append, go_sem]
      have hz : True := trivial
      have hy := yieldedV_eq
      have hL := @hr
      repeat' (first | (refine WPV.seqK ?_; intro N hN) | (refine And.intro (hO _ (by kernel_rfl)) ?_; clear hO) | refine gA ?_ | (refine gR (M := noM) ?_; intro N hN ops hy) | (refine gDG (M := noM) ?_; intro N hN ops hy hO) | (refine WPV.condK ?_; intro A hA B hB) | (refine here ?_; refine sS ?_) | refine Both.mk ?_ ?_ | ((with_reducible refine CallO.gd 23 ?_); refine CallO.toB Tryz.call23 (co _) ?_) | ((with_reducible refine CallO.gd 24 ?_); first | refine CallO.toB Tryz.call24 (ct _) ?_ | refine CallO.toB Tryz.call24 (ct2 _) ?_) | ((with_reducible refine CallO.gd 20 ?_); refine CallO.toB Tryz.call20 (kinds_s _) ?_) | ((with_reducible refine CallO.gd 41 ?_); refine CallO.frB [1] Tryz.call41 (ck) ?_) | ((with_reducible refine CallO.gd 46 ?_); refine CallO.frB [1] Tryz.call46 (ck) ?_) | ((with_reducible refine CallO.gd 50 ?_); refine CallO.frB [1] Tryz.call50 (ck) ?_) | ((with_reducible refine CallO.gd 12 ?_); refine CallO.frB [] Tryz.call12 (cc) ?_) | ((with_reducible refine CallP.gd 23 ?_); refine CallP.toB Tryz.call23 (co _) ?_) | ((with_reducible refine CallP.gd 24 ?_); first | refine CallP.toB Tryz.call24 (ct _) ?_ | refine CallP.toB Tryz.call24 (ct2 _) ?_) | ((with_reducible refine CallP.gd 20 ?_); refine CallP.toB Tryz.call20 (kinds_s _) ?_) | ((with_reducible refine CallP.gd 41 ?_); refine CallP.frB [1] 0 Tryz.call41 (ck) ?_) | ((with_reducible refine CallP.gd 46 ?_); refine CallP.frB [1] 0 Tryz.call46 (ck) ?_) | ((with_reducible refine CallP.gd 50 ?_); refine CallP.frB [1] 0 Tryz.call50 (ck) ?_) | (refine hN _ ?_; try clear hN N; try clear hy ops) | (refine hA ?_; clear hA A hB B; try simp only [hz]) | (refine hB ?_; clear hA A hB B; try simp only [hz]) | (refine gG ?_ ?_ <;> (intro hz; have h := nm hz; try (exfalso; omega)) <;> (have hz := nz hz; try subst hz)) | (rw [if_pos (show _ ∧ _ from ⟨by omega, by omega⟩)]; refine sS ?_) | refine gT ?_ | (clear hN N))
      all_goals (first | (rw [if_pos (show q ≠ 0 by omega)] at hQ; dsimp only [Msg.z] at hQ) | rw [if_neg (show ¬ q ≠ 0 by omega)] at hQ)
      all_goals (first | exact retZ hQ Tryz.results8 (Desc.re [] rfl) | exact retZN hQ Tryz.results8 (Desc.re [] rfl))
end Go.Proofs.YtgfnpcmehnjopaaGreatDoor
