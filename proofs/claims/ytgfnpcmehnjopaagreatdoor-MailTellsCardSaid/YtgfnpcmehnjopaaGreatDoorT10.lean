/- Parts of the proofs, joined: ClkR4, TxnP, TxnC. -/
import Derived.Test.YtgfnpcmehnjopaaGreatDoorT9
section
namespace Go.Proofs.YtgfnpcmehnjopaaGreatDoor
open Go Go.RowKit
set_option linter.unusedVariables false
set_option linter.unusedSimpArgs false
variable {K : Nat → Obj → Prop}
theorem rzig_s {m : Int} (h1 : -9223372036854775808 ≤ m) (h2 : m < 9223372036854775808) (h : List Ho) : Sp Tryz.prog K 84 [.sc (.int .i64 m)] h fun u hh => u = .sc (.int .u64 ((zigF m).toNat : Int)) ∧ hh = h :=
  .ofV (fun F φ w => .d (.sc rfl)) fun F φ w args hd => by
    obtain ⟨r, rfl, h3⟩ := args1 hd
    rw [h3.sc.1]; exact rzig_c m h1 h2 w
theorem rzag_s (n : UInt64) (h : List Ho) : Sp Tryz.prog K 98 [.sc (.int .u64 (n.toNat : Int))] h fun u hh => u = .sc (.int .i64 (zagF n)) ∧ hh = h :=
  .ofV (fun F φ w => .d (.sc rfl)) fun F φ w args hd => by
    obtain ⟨r, rfl, h3⟩ := args1 hd
    rw [h3.sc.1]; exact rzag_c n w
theorem rzput_s (m : Int) (h : List Ho) : Sp Tryz.prog K 21 [.sc (.int .u64 ((zigF m).toNat : Int))] h fun u hh => u = .sl 1 (bs (zz m)) ∧ hh = h := by
  have hp := UInt64.toNat_lt (zigF m)
  have := vrput_s (K := K) (m := ((zigF m).toNat : Int)) (by omega) (by omega) h
  rwa [Int.toNat_natCast] at this
set_option maxRecDepth 100000 in
set_option maxHeartbeats 1000000 in
theorem rcright_s (c : Clk) (h : List Ho) : Sp Tryz.prog K 57 [clkV c] h fun u hh => u = .sc (.bool (rightF c)) ∧ hh = h := by
  refine Sp.lift (vs := [clkV c]) ?_ (fun _ => rfl) (fun _ => rfl) h
  obtain ⟨x, y, z⟩ := c
  rw [rightF_if]
  by_cases q5 : z ≤ 4611686018427387903
  · have q6 : (z ≤ 4611686018427387903) = True := eq_true q5
    refine Sp.of_bodyE Tryz.func57 rfl ?_
    intro Q hQ
    simp only [List.replicate, List.length_cons, List.length_nil, Tryz.ntmps57, Nat.reduceAdd, Nat.reduceSub, List.cons_append, List.nil_append, go_sem]
    iterate 5
      all_goals try refine loopV ?_
      have hz : True := trivial
      have hy := yieldedV_eq
      have hL := @q6
      repeat' (first | (refine WPV.seqK ?_; intro N hN) | refine gA ?_ | (refine gR (M := noM) ?_; intro N hN ops hy) | (refine gD (M := noM) ?_; intro N hN; have hy := yieldedV_eq) | (refine WPV.condK ?_; intro A hA B hB) | (refine here ?_; refine sS ?_) | refine Both.mk ?_ ?_ | (refine hN _ ?_; try clear hN N; try clear hy ops) | (refine hA ?_; clear hA A hB B; try simp only [hz]) | (refine hB ?_; clear hA A hB B; try simp only [hz]) | (refine gG ?_ ?_ <;> (intro hz; have h := nm hz; try (exfalso; omega)) <;> (have hz := nz hz; try subst hz)) | (rw [if_pos (show _ ∧ _ from ⟨by omega, by omega⟩)]; refine sS ?_) | refine gT ?_ | (clear hN N))
    all_goals (first | exact retZ hQ Tryz.results57 (Desc.re [] rfl) | exact retZN hQ Tryz.results57 (Desc.re [] rfl))
  · have q6 : (z ≤ 4611686018427387903) = False := eq_false q5
    refine Sp.of_bodyE Tryz.func57 rfl ?_
    intro Q hQ
    simp only [List.replicate, List.length_cons, List.length_nil, Tryz.ntmps57, Nat.reduceAdd, Nat.reduceSub, List.cons_append, List.nil_append, go_sem]
    iterate 5
      all_goals try refine loopV ?_
      have hz : True := trivial
      have hy := yieldedV_eq
      have hL := @q6
      repeat' (first | (refine WPV.seqK ?_; intro N hN) | refine gA ?_ | (refine gR (M := noM) ?_; intro N hN ops hy) | (refine gD (M := noM) ?_; intro N hN; have hy := yieldedV_eq) | (refine WPV.condK ?_; intro A hA B hB) | (refine here ?_; refine sS ?_) | refine Both.mk ?_ ?_ | (refine hN _ ?_; try clear hN N; try clear hy ops) | (refine hA ?_; clear hA A hB B; try simp only [hz]) | (refine hB ?_; clear hA A hB B; try simp only [hz]) | (refine gG ?_ ?_ <;> (intro hz; have h := nm hz; try (exfalso; omega)) <;> (have hz := nz hz; try subst hz)) | (rw [if_pos (show _ ∧ _ from ⟨by omega, by omega⟩)]; refine sS ?_) | refine gT ?_ | (clear hN N))
    all_goals (first | exact retZ hQ Tryz.results57 (Desc.re [] rfl) | exact retZN hQ Tryz.results57 (Desc.re [] rfl))
set_option maxRecDepth 100000 in
set_option maxHeartbeats 2000000 in
theorem rcput_s (p c : Clk) (h : List Ho) : Sp Tryz.prog K 68 [clkV p, clkV c] h fun u hh => u = byV (cputF p c) ∧ hh = h := by
  refine Sp.lift (vs := [clkV p, clkV c]) ?_ (fun _ => rfl) (fun _ => rfl) h
  have cp := fun h => rcright_s (K := K) p h
  have cc := fun h => rcright_s (K := K) c h
  by_cases hp : rightF p = true ∧ rightF c = true
  · obtain ⟨h1, h2⟩ := hp
    have e : cputF p c = (zz (c.x - p.x) ++ zz (c.y - p.y) ++ zz (c.z - p.z), 0) := if_pos ⟨h1, h2⟩
    rw [h1] at cp
    rw [h2] at cc
    obtain ⟨⟨a1, a2⟩, ⟨a3, a4⟩, a5, a6⟩ := right_bounds h1
    obtain ⟨⟨b1, b2⟩, ⟨b3, b4⟩, b5, b6⟩ := right_bounds h2
    have l1 := zz_len (c.x - p.x)
    have l2 := zz_len (c.y - p.y)
    have l3 := zz_len (c.z - p.z)
    rw [e]
    clear e
    refine Sp.of_bodyE Tryz.func68 rfl ?_
    intro Q hQ
    simp only [List.replicate, List.length_cons, List.length_nil, Tryz.ntmps68, Nat.reduceAdd, Nat.reduceSub, List.cons_append, List.nil_append, go_sem]
    have hz : True := trivial
    have hy := yieldedV_eq
    have hL := True.intro
    repeat' (first | (refine WPV.seqK ?_; intro N hN) | refine gA ?_ | (refine gR (M := noM) ?_; intro N hN ops hy) | (refine gD (M := noM) ?_; intro N hN; have hy := yieldedV_eq) | (refine WPV.condK ?_; intro A hA B hB) | (refine here ?_; refine sS ?_) | refine Both.mk ?_ ?_ | ((with_reducible refine CallO.gd 57 ?_); first | refine CallO.toB Tryz.call57 (cp _) ?_ | refine CallO.toB Tryz.call57 (cc _) ?_) | ((with_reducible refine CallO.gd 84 ?_); first | refine CallO.toB Tryz.call84 (rzig_s (m := c.x - p.x) (by omega) (by omega) _) ?_ | refine CallO.toB Tryz.call84 (rzig_s (m := c.y - p.y) (by omega) (by omega) _) ?_ | refine CallO.toB Tryz.call84 (rzig_s (m := c.z - p.z) (by omega) (by omega) _) ?_) | ((with_reducible refine CallO.gd 21 ?_); first | refine CallO.toB Tryz.call21 (rzput_s (c.x - p.x) _) ?_ | refine CallO.toB Tryz.call21 (rzput_s (c.y - p.y) _) ?_ | refine CallO.toB Tryz.call21 (rzput_s (c.z - p.z) _) ?_) | ((with_reducible refine CallP.gd 57 ?_); first | refine CallP.toB Tryz.call57 (cp _) ?_ | refine CallP.toB Tryz.call57 (cc _) ?_) | ((with_reducible refine CallP.gd 84 ?_); first | refine CallP.toB Tryz.call84 (rzig_s (m := c.x - p.x) (by omega) (by omega) _) ?_ | refine CallP.toB Tryz.call84 (rzig_s (m := c.y - p.y) (by omega) (by omega) _) ?_ | refine CallP.toB Tryz.call84 (rzig_s (m := c.z - p.z) (by omega) (by omega) _) ?_) | ((with_reducible refine CallP.gd 21 ?_); first | refine CallP.toB Tryz.call21 (rzput_s (c.x - p.x) _) ?_ | refine CallP.toB Tryz.call21 (rzput_s (c.y - p.y) _) ?_ | refine CallP.toB Tryz.call21 (rzput_s (c.z - p.z) _) ?_) | (refine hN _ ?_; try clear hN N; try clear hy ops) | (refine hA ?_; clear hA A hB B; try simp only [hz]) | (refine hB ?_; clear hA A hB B; try simp only [hz]) | (refine gG ?_ ?_ <;> (intro hz; have h := nm hz; try (exfalso; omega)) <;> (have hz := nz hz; try subst hz)) | (rw [if_pos (show _ ∧ _ from ⟨by omega, by omega⟩)]; refine sS ?_) | refine gT ?_ | (clear hN N))
    refine WPV.desc (Desc.own0 (es := []) 6 1 rfl (.inl rfl)) ?_
    iterate 4
      all_goals try refine loopV ?_
      have hz : True := trivial
      have hy := yieldedV_eq
      have hL := True.intro
      repeat' (first | (refine WPV.seqK ?_; intro N hN) | refine gA ?_ | (refine gR (M := noM) ?_; intro N hN ops hy) | (refine gD (M := noM) ?_; intro N hN; have hy := yieldedV_eq) | (refine WPV.condK ?_; intro A hA B hB) | (refine here ?_; refine sS ?_) | refine Both.mk ?_ ?_ | ((with_reducible refine CallO.gd 57 ?_); first | refine CallO.toB Tryz.call57 (cp _) ?_ | refine CallO.toB Tryz.call57 (cc _) ?_) | ((with_reducible refine CallO.gd 84 ?_); first | refine CallO.toB Tryz.call84 (rzig_s (m := c.x - p.x) (by omega) (by omega) _) ?_ | refine CallO.toB Tryz.call84 (rzig_s (m := c.y - p.y) (by omega) (by omega) _) ?_ | refine CallO.toB Tryz.call84 (rzig_s (m := c.z - p.z) (by omega) (by omega) _) ?_) | ((with_reducible refine CallO.gd 21 ?_); first | refine CallO.toB Tryz.call21 (rzput_s (c.x - p.x) _) ?_ | refine CallO.toB Tryz.call21 (rzput_s (c.y - p.y) _) ?_ | refine CallO.toB Tryz.call21 (rzput_s (c.z - p.z) _) ?_) | ((with_reducible refine CallP.gd 57 ?_); first | refine CallP.toB Tryz.call57 (cp _) ?_ | refine CallP.toB Tryz.call57 (cc _) ?_) | ((with_reducible refine CallP.gd 84 ?_); first | refine CallP.toB Tryz.call84 (rzig_s (m := c.x - p.x) (by omega) (by omega) _) ?_ | refine CallP.toB Tryz.call84 (rzig_s (m := c.y - p.y) (by omega) (by omega) _) ?_ | refine CallP.toB Tryz.call84 (rzig_s (m := c.z - p.z) (by omega) (by omega) _) ?_) | ((with_reducible refine CallP.gd 21 ?_); first | refine CallP.toB Tryz.call21 (rzput_s (c.x - p.x) _) ?_ | refine CallP.toB Tryz.call21 (rzput_s (c.y - p.y) _) ?_ | refine CallP.toB Tryz.call21 (rzput_s (c.z - p.z) _) ?_) | (refine hN _ ?_; try clear hN N; try clear hy ops) | (refine hA ?_; clear hA A hB B; try simp only [hz]) | (refine hB ?_; clear hA A hB B; try simp only [hz]) | (refine gG ?_ ?_ <;> (intro hz; have h := nm hz; try (exfalso; omega)) <;> (have hz := nz hz; try subst hz)) | (rw [if_pos (show _ ∧ _ from ⟨by omega, by omega⟩)]; refine sS ?_) | refine gT ?_ | (clear hN N))
    all_goals (try unfold byV at hQ)
    all_goals (first | exact retZ hQ Tryz.results68 (Desc.re [] rfl) | exact retZN hQ Tryz.results68 (Desc.re [] rfl))
  · have e : cputF p c = ([], 1) := if_neg hp
    rw [e]
    clear e
    cases h1 : rightF p with
    | false =>
      rw [h1] at cp
      clear hp
      refine Sp.of_bodyE Tryz.func68 rfl ?_
      intro Q hQ
      simp only [List.replicate, List.length_cons, List.length_nil, Tryz.ntmps68, Nat.reduceAdd, Nat.reduceSub, List.cons_append, List.nil_append, go_sem]
      have hz : True := trivial
      have hy := yieldedV_eq
      have hL := True.intro
      repeat' (first | (refine WPV.seqK ?_; intro N hN) | refine gA ?_ | (refine gR (M := noM) ?_; intro N hN ops hy) | (refine gD (M := noM) ?_; intro N hN; have hy := yieldedV_eq) | (refine WPV.condK ?_; intro A hA B hB) | (refine here ?_; refine sS ?_) | refine Both.mk ?_ ?_ | ((with_reducible refine CallO.gd 57 ?_); first | refine CallO.toB Tryz.call57 (cp _) ?_ | refine CallO.toB Tryz.call57 (cc _) ?_) | ((with_reducible refine CallO.gd 84 ?_); first | refine CallO.toB Tryz.call84 (rzig_s (m := c.x - p.x) (by omega) (by omega) _) ?_ | refine CallO.toB Tryz.call84 (rzig_s (m := c.y - p.y) (by omega) (by omega) _) ?_ | refine CallO.toB Tryz.call84 (rzig_s (m := c.z - p.z) (by omega) (by omega) _) ?_) | ((with_reducible refine CallO.gd 21 ?_); first | refine CallO.toB Tryz.call21 (rzput_s (c.x - p.x) _) ?_ | refine CallO.toB Tryz.call21 (rzput_s (c.y - p.y) _) ?_ | refine CallO.toB Tryz.call21 (rzput_s (c.z - p.z) _) ?_) | ((with_reducible refine CallP.gd 57 ?_); first | refine CallP.toB Tryz.call57 (cp _) ?_ | refine CallP.toB Tryz.call57 (cc _) ?_) | ((with_reducible refine CallP.gd 84 ?_); first | refine CallP.toB Tryz.call84 (rzig_s (m := c.x - p.x) (by omega) (by omega) _) ?_ | refine CallP.toB Tryz.call84 (rzig_s (m := c.y - p.y) (by omega) (by omega) _) ?_ | refine CallP.toB Tryz.call84 (rzig_s (m := c.z - p.z) (by omega) (by omega) _) ?_) | ((with_reducible refine CallP.gd 21 ?_); first | refine CallP.toB Tryz.call21 (rzput_s (c.x - p.x) _) ?_ | refine CallP.toB Tryz.call21 (rzput_s (c.y - p.y) _) ?_ | refine CallP.toB Tryz.call21 (rzput_s (c.z - p.z) _) ?_) | (refine hN _ ?_; try clear hN N; try clear hy ops) | (refine hA ?_; clear hA A hB B; try simp only [hz]) | (refine hB ?_; clear hA A hB B; try simp only [hz]) | (refine gG ?_ ?_ <;> (intro hz; have h := nm hz; try (exfalso; omega)) <;> (have hz := nz hz; try subst hz)) | (rw [if_pos (show _ ∧ _ from ⟨by omega, by omega⟩)]; refine sS ?_) | refine gT ?_ | (clear hN N))
      all_goals (try unfold byV at hQ)
      all_goals (first | exact retZ hQ Tryz.results68 (Desc.re [] rfl) | exact retZN hQ Tryz.results68 (Desc.re [] rfl))
    | true =>
      have h2 : rightF c = false := by
        cases h : rightF c
        · rfl
        · exact absurd ⟨h1, h⟩ hp
      rw [h1] at cp
      rw [h2] at cc
      clear hp
      refine Sp.of_bodyE Tryz.func68 rfl ?_
      intro Q hQ
      simp only [List.replicate, List.length_cons, List.length_nil, Tryz.ntmps68, Nat.reduceAdd, Nat.reduceSub, List.cons_append, List.nil_append, go_sem]
      have hz : True := trivial
      have hy := yieldedV_eq
      have hL := True.intro
      repeat' (first | (refine WPV.seqK ?_; intro N hN) | refine gA ?_ | (refine gR (M := noM) ?_; intro N hN ops hy) | (refine gD (M := noM) ?_; intro N hN; have hy := yieldedV_eq) | (refine WPV.condK ?_; intro A hA B hB) | (refine here ?_; refine sS ?_) | refine Both.mk ?_ ?_ | ((with_reducible refine CallO.gd 57 ?_); first | refine CallO.toB Tryz.call57 (cp _) ?_ | refine CallO.toB Tryz.call57 (cc _) ?_) | ((with_reducible refine CallO.gd 84 ?_); first | refine CallO.toB Tryz.call84 (rzig_s (m := c.x - p.x) (by omega) (by omega) _) ?_ | refine CallO.toB Tryz.call84 (rzig_s (m := c.y - p.y) (by omega) (by omega) _) ?_ | refine CallO.toB Tryz.call84 (rzig_s (m := c.z - p.z) (by omega) (by omega) _) ?_) | ((with_reducible refine CallO.gd 21 ?_); first | refine CallO.toB Tryz.call21 (rzput_s (c.x - p.x) _) ?_ | refine CallO.toB Tryz.call21 (rzput_s (c.y - p.y) _) ?_ | refine CallO.toB Tryz.call21 (rzput_s (c.z - p.z) _) ?_) | ((with_reducible refine CallP.gd 57 ?_); first | refine CallP.toB Tryz.call57 (cp _) ?_ | refine CallP.toB Tryz.call57 (cc _) ?_) | ((with_reducible refine CallP.gd 84 ?_); first | refine CallP.toB Tryz.call84 (rzig_s (m := c.x - p.x) (by omega) (by omega) _) ?_ | refine CallP.toB Tryz.call84 (rzig_s (m := c.y - p.y) (by omega) (by omega) _) ?_ | refine CallP.toB Tryz.call84 (rzig_s (m := c.z - p.z) (by omega) (by omega) _) ?_) | ((with_reducible refine CallP.gd 21 ?_); first | refine CallP.toB Tryz.call21 (rzput_s (c.x - p.x) _) ?_ | refine CallP.toB Tryz.call21 (rzput_s (c.y - p.y) _) ?_ | refine CallP.toB Tryz.call21 (rzput_s (c.z - p.z) _) ?_) | (refine hN _ ?_; try clear hN N; try clear hy ops) | (refine hA ?_; clear hA A hB B; try simp only [hz]) | (refine hB ?_; clear hA A hB B; try simp only [hz]) | (refine gG ?_ ?_ <;> (intro hz; have h := nm hz; try (exfalso; omega)) <;> (have hz := nz hz; try subst hz)) | (rw [if_pos (show _ ∧ _ from ⟨by omega, by omega⟩)]; refine sS ?_) | refine gT ?_ | (clear hN N))
      all_goals (try unfold byV at hQ)
      all_goals (first | exact retZ hQ Tryz.results68 (Desc.re [] rfl) | exact retZN hQ Tryz.results68 (Desc.re [] rfl))
set_option maxRecDepth 100000 in
set_option maxHeartbeats 4000000 in
theorem rctake_s (p : Clk) (b : List UInt8) (hl : b.length ≤ 1000000000) (h : List Ho) : Sp Tryz.prog K 87 [clkV p, .sl 1 (bs b)] h fun u hh => u = ckV (ctakeF p b) ∧ hh = h := by
  refine Sp.lift (vs := [clkV p, .sl 1 (bs b)]) ?_ (fun _ => rfl) (fun _ => rfl) h
  have cp := fun h => rcright_s (K := K) p h
  obtain ⟨px, py, pz⟩ := p
  dsimp only [clkV] at cp
  cases hr : rightF ⟨px, py, pz⟩ with
  | false =>
    have e : ctakeF ⟨px, py, pz⟩ b = (⟨0, 0, 0⟩, 0, 1) := if_pos hr
    rw [e]
    rw [hr] at cp
    clear e
    have g1 := True.intro
    refine Sp.of_bodyE Tryz.func87 rfl ?_
    intro Q hQ
    simp only [List.replicate, List.length_cons, List.length_nil, Tryz.ntmps87, Nat.reduceAdd, Nat.reduceSub, List.cons_append, List.nil_append, go_sem]
    have hz : True := trivial
    have hy := yieldedV_eq
    have hL := @g1
    repeat' (first | (refine WPV.seqK ?_; intro N hN) | refine gA ?_ | (refine gR (M := noM) ?_; intro N hN ops hy) | (refine gD (M := noM) ?_; intro N hN; have hy := yieldedV_eq) | (refine WPV.condK ?_; intro A hA B hB) | (refine here ?_; refine sS ?_) | refine Both.mk ?_ ?_ | ((with_reducible refine CallO.gd 57 ?_); refine CallO.toB Tryz.call57 (cp _) ?_) | ((with_reducible refine CallO.gd 26 ?_); first | refine CallO.toB Tryz.call26 (vrtake_s h1 (by omega) _) ?_ | refine CallO.toB Tryz.call26 (vrtake_s h2 (by simp only [List.length_drop]; omega) _) ?_ | refine CallO.toB Tryz.call26 (vrtake_s h3 (by simp only [List.length_drop]; omega) _) ?_) | ((with_reducible refine CallO.gd 98 ?_); first | refine CallO.toB Tryz.call98 (rzag_s u1 _) ?_ | refine CallO.toB Tryz.call98 (rzag_s u2 _) ?_ | refine CallO.toB Tryz.call98 (rzag_s u3 _) ?_) | ((with_reducible refine CallP.gd 57 ?_); refine CallP.toB Tryz.call57 (cp _) ?_) | ((with_reducible refine CallP.gd 26 ?_); first | refine CallP.toB Tryz.call26 (vrtake_s h1 (by omega) _) ?_ | refine CallP.toB Tryz.call26 (vrtake_s h2 (by simp only [List.length_drop]; omega) _) ?_ | refine CallP.toB Tryz.call26 (vrtake_s h3 (by simp only [List.length_drop]; omega) _) ?_) | ((with_reducible refine CallP.gd 98 ?_); first | refine CallP.toB Tryz.call98 (rzag_s u1 _) ?_ | refine CallP.toB Tryz.call98 (rzag_s u2 _) ?_ | refine CallP.toB Tryz.call98 (rzag_s u3 _) ?_) | (refine hN _ ?_; try clear hN N; try clear hy ops) | (refine hA ?_; clear hA A hB B; try simp only [hz]) | (refine hB ?_; clear hA A hB B; try simp only [hz]) | (refine gG ?_ ?_ <;> (intro hz; have h := nm hz; try (exfalso; omega)) <;> (have hz := nz hz; try subst hz)) | (rw [if_pos (show _ ∧ _ from ⟨by omega, by omega⟩)]; refine sS ?_) | refine gT ?_ | (clear hN N))
    all_goals (first | exact retZ hQ Tryz.results87 (Desc.re [] rfl) | exact retZN hQ Tryz.results87 (Desc.re [] rfl))
  | true =>
    rw [hr] at cp
    obtain ⟨⟨a1, a2⟩, ⟨a3, a4⟩, a5, a6⟩ := right_bounds hr
    obtain ⟨u1, n1, e1, h1⟩ : ∃ p m e, tk b = (p, m, e) := ⟨_, _, _, rfl⟩
    have l1 := tk_le b
    rw [h1] at l1
    obtain ⟨u2, n2, e2, h2⟩ : ∃ p m e, tk (b.drop n1) = (p, m, e) := ⟨_, _, _, rfl⟩
    have l2 := tk_le (b.drop n1)
    rw [h2, List.length_drop] at l2
    obtain ⟨u3, n3, e3, h3⟩ : ∃ p m e, tk (b.drop (n1 + n2)) = (p, m, e) := ⟨_, _, _, rfl⟩
    have l3 := tk_le (b.drop (n1 + n2))
    rw [h3, List.length_drop] at l3
    rw [ctakeF_of hr h1 h2 h3]
    have z1 := zag_bounds u1
    have z2 := zag_bounds u2
    have z3 := zag_bounds u3
    dsimp only at l1 l2 l3 a1 a2 a3 a4 a5 a6
    have g1 : ((n1 : Int) + (n2 : Int)).toNat = n1 + n2 := by omega
    refine Sp.of_bodyE Tryz.func87 rfl ?_
    intro Q hQ
    simp only [List.replicate, List.length_cons, List.length_nil, Tryz.ntmps87, Nat.reduceAdd, Nat.reduceSub, List.cons_append, List.nil_append, go_sem]
    iterate 5
      all_goals try refine loopV ?_
      have hz : True := trivial
      have hy := yieldedV_eq
      have hL := @g1
      repeat' (first | (refine WPV.seqK ?_; intro N hN) | refine gA ?_ | (refine gR (M := noM) ?_; intro N hN ops hy) | (refine gD (M := noM) ?_; intro N hN; have hy := yieldedV_eq) | (refine WPV.condK ?_; intro A hA B hB) | (refine here ?_; refine sS ?_) | refine Both.mk ?_ ?_ | ((with_reducible refine CallO.gd 57 ?_); refine CallO.toB Tryz.call57 (cp _) ?_) | ((with_reducible refine CallO.gd 26 ?_); first | refine CallO.toB Tryz.call26 (vrtake_s h1 (by omega) _) ?_ | refine CallO.toB Tryz.call26 (vrtake_s h2 (by simp only [List.length_drop]; omega) _) ?_ | refine CallO.toB Tryz.call26 (vrtake_s h3 (by simp only [List.length_drop]; omega) _) ?_) | ((with_reducible refine CallO.gd 98 ?_); first | refine CallO.toB Tryz.call98 (rzag_s u1 _) ?_ | refine CallO.toB Tryz.call98 (rzag_s u2 _) ?_ | refine CallO.toB Tryz.call98 (rzag_s u3 _) ?_) | ((with_reducible refine CallP.gd 57 ?_); refine CallP.toB Tryz.call57 (cp _) ?_) | ((with_reducible refine CallP.gd 26 ?_); first | refine CallP.toB Tryz.call26 (vrtake_s h1 (by omega) _) ?_ | refine CallP.toB Tryz.call26 (vrtake_s h2 (by simp only [List.length_drop]; omega) _) ?_ | refine CallP.toB Tryz.call26 (vrtake_s h3 (by simp only [List.length_drop]; omega) _) ?_) | ((with_reducible refine CallP.gd 98 ?_); first | refine CallP.toB Tryz.call98 (rzag_s u1 _) ?_ | refine CallP.toB Tryz.call98 (rzag_s u2 _) ?_ | refine CallP.toB Tryz.call98 (rzag_s u3 _) ?_) | (refine hN _ ?_; try clear hN N; try clear hy ops) | (refine hA ?_; clear hA A hB B; try simp only [hz]) | (refine hB ?_; clear hA A hB B; try simp only [hz]) | (refine gG ?_ ?_ <;> (intro hz; have h := nm hz; try (exfalso; omega)) <;> (have hz := nz hz; try subst hz)) | (rw [if_pos (show _ ∧ _ from ⟨by omega, by omega⟩)]; refine sS ?_) | refine gT ?_ | (clear hN N))
    all_goals (first | exact retZ hQ Tryz.results87 (Desc.re [] rfl) | exact retZN hQ Tryz.results87 (Desc.re [] rfl))
end Go.Proofs.YtgfnpcmehnjopaaGreatDoor
end
section
namespace Go.Proofs.YtgfnpcmehnjopaaGreatDoor
section
open Go Go.RowKit
set_option linter.unusedVariables false
set_option linter.unusedSimpArgs false
variable {K : Nat → Obj → Prop}
structure Wr where
  k : ByteArray
  v : ByteArray
  g : Bool
def Wr.d (a : Wr) : List D := [.sc (.string a.k), .sc (.string a.v), .sc (.bool a.g)]
def wrl (l : List Wr) : List (List D) := l.map Wr.d
theorem wrl_len (l : List Wr) : (wrl l).length = l.length := by simp [wrl]
theorem wrl_get (l : List Wr) (i : Nat) : (wrl l)[i]? = (l[i]?).map Wr.d := by simp [wrl]
attribute [go_sem] wrl_len wrl_get Wr.d
abbrev wrV (a : Wr) : V := .agg [.sc (.string a.k), .sc (.string a.v), .sc (.bool a.g)]
def Wr.long (a : Wr) : Bool := decide (64 < a.k.size) || decide (256 < a.v.size)
def Wr.odd (a : Wr) : Bool := a.g && decide (a.v ≠ ByteArray.empty)
set_option maxRecDepth 100000 in
theorem tlong_s (a : Wr) (h : List Ho) : Sp Tryz.prog K 74 [wrV a] h fun u hh => u = .sc (.bool a.long) ∧ hh = h := by
  refine Sp.pure_ (R := fun u hh => Wk [u] [.sc (.bool a.long)]) ?_ (fun _ => rfl) (fun _ => rfl) (fun v h e => e) h
  obtain ⟨k, v, g⟩ := a
  unfold Wr.long
  by_cases h1 : 64 < k.size
  · have q0 : ((64 : Int) < (k.size : Int)) = True := eq_true (by omega)
    have q1 : True := trivial
    rw [decide_eq_true h1, Bool.true_or]
    refine Sp.of_bodyD Tryz.func74 rfl ?_
    intro Q hQ
    simp only [List.replicate, List.length_cons, List.length_nil, Tryz.ntmps74, Nat.reduceAdd, Nat.reduceSub, List.cons_append, List.nil_append, go_sem]
    have hz : True := trivial
    have hy := yieldedV_eq
    have hL := And.intro @q0 (@q1)
    repeat' (first | (refine WPV.seqK ?_; intro N hN) | refine gA ?_ | (refine gR (M := noM) ?_; intro N hN ops hy) | (refine gD (M := noM) ?_; intro N hN; have hy := yieldedV_eq) | (refine WPV.condK ?_; intro A hA B hB) | (refine here ?_; refine sM ?_) | refine Both.mk ?_ ?_ | (refine hN _ ?_; try clear hN N; try clear hy ops) | (refine hA ?_; clear hA A hB B; try simp only [hz]) | (refine hB ?_; clear hA A hB B; try simp only [hz]) | (refine gG ?_ ?_ <;> (intro hz; have h := nm hz; try (exfalso; omega)) <;> (have hz := nz hz)) | ((first | rw [if_pos (show _ ∧ _ from ⟨by omega, by omega⟩)] | rw [if_pos (show _ ∧ _ from by simp only [List.length_append, List.length_cons, List.length_nil]; exact ⟨by omega, by omega⟩)]); refine sM ?_) | refine gT ?_ | (clear hN N))
    all_goals (apply And.right; refine hQ _ _ _ Desc.refl ?_ Wk.refl)
    · (first | (simp only [go_sem, reduceCtorEq, Nat.reduceAdd, Nat.reduceSub, Nat.reduceMul, Nat.reduceLT, Nat.reduceLeDiff, Int.reduceLT, Int.reduceLE, Int.reduceEq, Int.reduceNe, Int.reduceAdd, Int.reduceSub, Int.reduceMul, Int.reduceToNat, Int.reduceNeg, Int.reducePow, Nat.reducePow, Nat.reduceEqDiff, Nat.reduceBEq, Int.reduceBEq, Int.reduceBNe, Int.reduceNegSucc, Tryz.results74]; done) | (simp only [go_sem, reduceCtorEq, Nat.reduceAdd, Nat.reduceSub, Nat.reduceMul, Nat.reduceLT, Nat.reduceLeDiff, Int.reduceLT, Int.reduceLE, Int.reduceEq, Int.reduceNe, Int.reduceAdd, Int.reduceSub, Int.reduceMul, Int.reduceToNat, Int.reduceNeg, Int.reducePow, Nat.reducePow, Nat.reduceEqDiff, Nat.reduceBEq, Int.reduceBEq, Int.reduceBNe, Int.reduceNegSucc, Tryz.results74]; rfl) | rfl)
  · have q0 : ((64 : Int) < (k.size : Int)) = False := eq_false (by omega)
    have q1 : ((256 : Int) < (v.size : Int)) = (256 < v.size) := propext (by omega)
    rw [decide_eq_false h1, Bool.false_or]
    refine Sp.of_bodyD Tryz.func74 rfl ?_
    intro Q hQ
    simp only [List.replicate, List.length_cons, List.length_nil, Tryz.ntmps74, Nat.reduceAdd, Nat.reduceSub, List.cons_append, List.nil_append, go_sem]
    have hz : True := trivial
    have hy := yieldedV_eq
    have hL := And.intro @q0 (@q1)
    repeat' (first | (refine WPV.seqK ?_; intro N hN) | refine gA ?_ | (refine gR (M := noM) ?_; intro N hN ops hy) | (refine gD (M := noM) ?_; intro N hN; have hy := yieldedV_eq) | (refine WPV.condK ?_; intro A hA B hB) | (refine here ?_; refine sM ?_) | refine Both.mk ?_ ?_ | (refine hN _ ?_; try clear hN N; try clear hy ops) | (refine hA ?_; clear hA A hB B; try simp only [hz]) | (refine hB ?_; clear hA A hB B; try simp only [hz]) | (refine gG ?_ ?_ <;> (intro hz; have h := nm hz; try (exfalso; omega)) <;> (have hz := nz hz)) | ((first | rw [if_pos (show _ ∧ _ from ⟨by omega, by omega⟩)] | rw [if_pos (show _ ∧ _ from by simp only [List.length_append, List.length_cons, List.length_nil]; exact ⟨by omega, by omega⟩)]); refine sM ?_) | refine gT ?_ | (clear hN N))
    all_goals (apply And.right; refine hQ _ _ _ Desc.refl ?_ Wk.refl)
    · (first | (simp only [go_sem, reduceCtorEq, Nat.reduceAdd, Nat.reduceSub, Nat.reduceMul, Nat.reduceLT, Nat.reduceLeDiff, Int.reduceLT, Int.reduceLE, Int.reduceEq, Int.reduceNe, Int.reduceAdd, Int.reduceSub, Int.reduceMul, Int.reduceToNat, Int.reduceNeg, Int.reducePow, Nat.reducePow, Nat.reduceEqDiff, Nat.reduceBEq, Int.reduceBEq, Int.reduceBNe, Int.reduceNegSucc, Tryz.results74]; done) | (simp only [go_sem, reduceCtorEq, Nat.reduceAdd, Nat.reduceSub, Nat.reduceMul, Nat.reduceLT, Nat.reduceLeDiff, Int.reduceLT, Int.reduceLE, Int.reduceEq, Int.reduceNe, Int.reduceAdd, Int.reduceSub, Int.reduceMul, Int.reduceToNat, Int.reduceNeg, Int.reducePow, Nat.reducePow, Nat.reduceEqDiff, Nat.reduceBEq, Int.reduceBEq, Int.reduceBNe, Int.reduceNegSucc, Tryz.results74]; rfl) | rfl)
theorem odd_e (v : ByteArray) : (!(v.toList == ({ data := #[] } : ByteArray).toList)) = decide (v ≠ ByteArray.empty) := by
  rw [ByteArray.toList_eq, ByteArray.toList_eq]
  by_cases h : v = ByteArray.empty
  · subst h; rfl
  · have : v.data.toList ≠ [] := fun e => h (by cases v; simp at e; subst e; rfl)
    simp [h]
    intro e
    exact this (by rw [e])
set_option maxRecDepth 100000 in
theorem todd_s (a : Wr) (h : List Ho) : Sp Tryz.prog K 75 [wrV a] h fun u hh => u = .sc (.bool a.odd) ∧ hh = h := by
  refine Sp.pure_ (R := fun u hh => Wk [u] [.sc (.bool a.odd)]) ?_ (fun _ => rfl) (fun _ => rfl) (fun v h e => e) h
  obtain ⟨k, v, g⟩ := a
  unfold Wr.odd
  cases g with
  | false =>
    have q0 : True := trivial
    refine Sp.of_bodyD Tryz.func75 rfl ?_
    intro Q hQ
    simp only [List.replicate, List.length_cons, List.length_nil, Tryz.ntmps75, Nat.reduceAdd, Nat.reduceSub, List.cons_append, List.nil_append, go_sem]
    have hz : True := trivial
    have hy := yieldedV_eq
    have hL := @q0
    repeat' (first | (refine WPV.seqK ?_; intro N hN) | refine gA ?_ | (refine gR (M := noM) ?_; intro N hN ops hy) | (refine gD (M := noM) ?_; intro N hN; have hy := yieldedV_eq) | (refine WPV.condK ?_; intro A hA B hB) | (refine here ?_; refine sM ?_) | refine Both.mk ?_ ?_ | (refine hN _ ?_; try clear hN N; try clear hy ops) | (refine hA ?_; clear hA A hB B; try simp only [hz]) | (refine hB ?_; clear hA A hB B; try simp only [hz]) | (refine gG ?_ ?_ <;> (intro hz; have h := nm hz; try (exfalso; omega)) <;> (have hz := nz hz)) | ((first | rw [if_pos (show _ ∧ _ from ⟨by omega, by omega⟩)] | rw [if_pos (show _ ∧ _ from by simp only [List.length_append, List.length_cons, List.length_nil]; exact ⟨by omega, by omega⟩)]); refine sM ?_) | refine gT ?_ | (clear hN N))
    all_goals (apply And.right; refine hQ _ _ _ Desc.refl ?_ Wk.refl)
    · (first | (simp only [go_sem, reduceCtorEq, Nat.reduceAdd, Nat.reduceSub, Nat.reduceMul, Nat.reduceLT, Nat.reduceLeDiff, Int.reduceLT, Int.reduceLE, Int.reduceEq, Int.reduceNe, Int.reduceAdd, Int.reduceSub, Int.reduceMul, Int.reduceToNat, Int.reduceNeg, Int.reducePow, Nat.reducePow, Nat.reduceEqDiff, Nat.reduceBEq, Int.reduceBEq, Int.reduceBNe, Int.reduceNegSucc, Tryz.results75]; done) | (simp only [go_sem, reduceCtorEq, Nat.reduceAdd, Nat.reduceSub, Nat.reduceMul, Nat.reduceLT, Nat.reduceLeDiff, Int.reduceLT, Int.reduceLE, Int.reduceEq, Int.reduceNe, Int.reduceAdd, Int.reduceSub, Int.reduceMul, Int.reduceToNat, Int.reduceNeg, Int.reducePow, Nat.reducePow, Nat.reduceEqDiff, Nat.reduceBEq, Int.reduceBEq, Int.reduceBNe, Int.reduceNegSucc, Tryz.results75]; rfl) | rfl)
  | true =>
    have q0 : True := trivial
    refine Sp.of_bodyD Tryz.func75 rfl ?_
    intro Q hQ
    simp only [List.replicate, List.length_cons, List.length_nil, Tryz.ntmps75, Nat.reduceAdd, Nat.reduceSub, List.cons_append, List.nil_append, go_sem]
    have hz : True := trivial
    have hy := yieldedV_eq
    have hL := @q0
    repeat' (first | (refine WPV.seqK ?_; intro N hN) | refine gA ?_ | (refine gR (M := noM) ?_; intro N hN ops hy) | (refine gD (M := noM) ?_; intro N hN; have hy := yieldedV_eq) | (refine WPV.condK ?_; intro A hA B hB) | (refine here ?_; refine sM ?_) | refine Both.mk ?_ ?_ | (refine hN _ ?_; try clear hN N; try clear hy ops) | (refine hA ?_; clear hA A hB B; try simp only [hz]) | (refine hB ?_; clear hA A hB B; try simp only [hz]) | (refine gG ?_ ?_ <;> (intro hz; have h := nm hz; try (exfalso; omega)) <;> (have hz := nz hz)) | ((first | rw [if_pos (show _ ∧ _ from ⟨by omega, by omega⟩)] | rw [if_pos (show _ ∧ _ from by simp only [List.length_append, List.length_cons, List.length_nil]; exact ⟨by omega, by omega⟩)]); refine sM ?_) | refine gT ?_ | (clear hN N))
    apply And.right
    refine hQ _ _ ?_ Desc.refl ?_ ?_
    rotate_left
    · (first | (simp only [go_sem, reduceCtorEq, Nat.reduceAdd, Nat.reduceSub, Nat.reduceMul, Nat.reduceLT, Nat.reduceLeDiff, Int.reduceLT, Int.reduceLE, Int.reduceEq, Int.reduceNe, Int.reduceAdd, Int.reduceSub, Int.reduceMul, Int.reduceToNat, Int.reduceNeg, Int.reducePow, Nat.reducePow, Nat.reduceEqDiff, Nat.reduceBEq, Int.reduceBEq, Int.reduceBNe, Int.reduceNegSucc, Tryz.results75]; done) | (simp only [go_sem, reduceCtorEq, Nat.reduceAdd, Nat.reduceSub, Nat.reduceMul, Nat.reduceLT, Nat.reduceLeDiff, Int.reduceLT, Int.reduceLE, Int.reduceEq, Int.reduceNe, Int.reduceAdd, Int.reduceSub, Int.reduceMul, Int.reduceToNat, Int.reduceNeg, Int.reducePow, Nat.reducePow, Nat.reduceEqDiff, Nat.reduceBEq, Int.reduceBEq, Int.reduceBNe, Int.reduceNegSucc, Tryz.results75]; rfl) | rfl)
    · rw [odd_e]; exact Wk.refl
end
section
open Go Go.RowKit
set_option linter.unusedVariables false
set_option linter.unusedSimpArgs false
variable {K : Nat → Obj → Prop}
def fidx (p : Wr → Bool) : List Wr → Nat → Int
  | [], _ => -1
  | a :: l, k => if p a = true then (k : Int) else fidx p l (k + 1)
theorem fidx_any (p : Wr → Bool) : ∀ (l : List Wr) (k : Nat), decide (0 ≤ fidx p l k) = l.any p
  | [], k => by simp [fidx]
  | a :: l, k => by
    unfold fidx
    rw [List.any_cons]
    cases h : p a with
    | true => simp
    | false => simpa using fidx_any p l (k + 1)
set_option maxRecDepth 100000 in
set_option maxHeartbeats 2000000 in
theorem long_ix (l : List Wr) (hl : l.length ≤ 9223372036854775807) : Sp Tryz.prog K 89 [.sl 3 (wrl l), .fn 74 []] [] fun u hh => u = .sc (.int .i64 (fidx Wr.long l 0)) ∧ hh = [] := by
  have hlt : True := trivial
  have hget : True := trivial
  have hb : True := trivial
  have hw : True := trivial
  refine Sp.of_bodyD Tryz.func89 rfl ?_
  intro Q hQ
  simp only [List.replicate, List.length_cons, List.length_nil, Tryz.ntmps89, Nat.reduceAdd, Nat.reduceSub, List.cons_append, List.nil_append, go_sem]
  have hz : True := trivial
  have hy := yieldedV_eq
  have hL := And.intro @hlt (And.intro @hget (And.intro @hb (@hw)))
  repeat' (first | (refine WPV.seqK ?_; intro N hN) | refine gA ?_ | (refine gR (M := noM) ?_; intro N hN ops hy) | (refine gD (M := noM) ?_; intro N hN; have hy := yieldedV_eq) | (refine WPV.condK ?_; intro A hA B hB) | (refine here ?_; refine sM ?_) | refine Both.mk ?_ ?_ | ((with_reducible refine CallO.gd 74 ?_); refine CallO.toA Tryz.call74 (tlong_s _ _) ?_) | ((with_reducible refine CallP.gd 74 ?_); refine CallP.toA Tryz.call74 (tlong_s _ _) ?_) | (refine hN _ ?_; try clear hN N; try clear hy ops) | (refine hA ?_; clear hA A hB B; try simp only [hz]) | (refine hB ?_; clear hA A hB B; try simp only [hz]) | (refine gG ?_ ?_ <;> (intro hz; have h := nm hz; try (exfalso; omega)) <;> (have hz := nz hz)) | ((first | rw [if_pos (show _ ∧ _ from ⟨by omega, by omega⟩)] | rw [if_pos (show _ ∧ _ from by simp only [List.length_append, List.length_cons, List.length_nil]; exact ⟨by omega, by omega⟩)]); refine sM ?_) | refine gT ?_ | (clear hN N))
  refine WPV.desc (Desc.weakA (tm' := [.sl 3 (wrl l), .fn 74 [], .any, .any, .any, .any, .any, .sc (.int .i64 (l.length : Int)), .sc (.int .i64 0), .any, .any, .any, .any, .any, .any, .any, .any, .any, .any]) (h' := [])) ?_
  refine WPV.loopA (α := Nat) (fun k => l.length - k) (fun k => ⟨[.sl 3 (wrl l), .fn 74 [], .any, .any, .any, .any, .any, .sc (.int .i64 (l.length : Int)), .sc (.int .i64 ((k : Nat) : Int)), .any, .any, .any, .any, .any, .any, .any, .any, .any, .any], []⟩) (fun k => k ≤ l.length ∧ fidx Wr.long l 0 = fidx Wr.long (l.drop k) k) (fun k ⟨hk0, hJ⟩ H => ?_) 0 ⟨Nat.zero_le _, rfl⟩
  clear hlt hget hb hw
  by_cases h : k < l.length
  · have hlt : ((k : Int) < (l.length : Int)) = True := eq_true (by omega)
    have hget : l[k]? = some l[k] := List.getElem?_eq_getElem h
    have hw : IntKind.i64.wrap ((k : Int) + 1) = ((k + 1 : Nat) : Int) := by rw [wr_i64 (by omega) (by omega)]; rfl
    rw [List.drop_eq_getElem_cons h, fidx] at hJ
    generalize l[k] = a at hget hJ
    by_cases hb : a.long = true
    · rw [if_pos hb] at hJ
      rw [hJ] at hQ
      refine loopV ?_
      have hz : True := trivial
      have hy := yieldedV_eq
      have hL := And.intro @hlt (And.intro @hget (And.intro @hb (@hw)))
      repeat' (first | (refine WPV.seqK ?_; intro N hN) | refine gA ?_ | (refine gR (M := noM) ?_; intro N hN ops hy) | (refine gD (M := noM) ?_; intro N hN; have hy := yieldedV_eq) | (refine WPV.condK ?_; intro A hA B hB) | (refine here ?_; refine sM ?_) | refine Both.mk ?_ ?_ | ((with_reducible refine CallO.gd 74 ?_); refine CallO.toA Tryz.call74 (tlong_s _ _) ?_) | ((with_reducible refine CallP.gd 74 ?_); refine CallP.toA Tryz.call74 (tlong_s _ _) ?_) | (refine hN _ ?_; try clear hN N; try clear hy ops) | (refine hA ?_; clear hA A hB B; try simp only [hz]) | (refine hB ?_; clear hA A hB B; try simp only [hz]) | (refine gG ?_ ?_ <;> (intro hz; have h := nm hz; try (exfalso; omega)) <;> (have hz := nz hz)) | ((first | rw [if_pos (show _ ∧ _ from ⟨by omega, by omega⟩)] | rw [if_pos (show _ ∧ _ from by simp only [List.length_append, List.length_cons, List.length_nil]; exact ⟨by omega, by omega⟩)]); refine sM ?_) | refine gT ?_ | (clear hN N))
      all_goals (first | exact retA hQ Tryz.results89 (Desc.re [] rfl) | exact retN hQ Tryz.results89 (Desc.re [] rfl))
    · rw [if_neg hb] at hJ
      have hb : a.long = false := by simpa using hb
      have H' := H (k + 1) ⟨by omega, hJ⟩ (by omega)
      clear H
      refine loopV ?_
      have hz : True := trivial
      have hy := yieldedV_eq
      have hL := And.intro @hlt (And.intro @hget (And.intro @hb (@hw)))
      repeat' (first | (refine WPV.seqK ?_; intro N hN) | refine gA ?_ | (refine gR (M := noM) ?_; intro N hN ops hy) | (refine gD (M := noM) ?_; intro N hN; have hy := yieldedV_eq) | (refine WPV.condK ?_; intro A hA B hB) | (refine here ?_; refine sM ?_) | refine Both.mk ?_ ?_ | ((with_reducible refine CallO.gd 74 ?_); refine CallO.toA Tryz.call74 (tlong_s _ _) ?_) | ((with_reducible refine CallP.gd 74 ?_); refine CallP.toA Tryz.call74 (tlong_s _ _) ?_) | (refine hN _ ?_; try clear hN N; try clear hy ops) | (refine hA ?_; clear hA A hB B; try simp only [hz]) | (refine hB ?_; clear hA A hB B; try simp only [hz]) | (refine gG ?_ ?_ <;> (intro hz; have h := nm hz; try (exfalso; omega)) <;> (have hz := nz hz)) | ((first | rw [if_pos (show _ ∧ _ from ⟨by omega, by omega⟩)] | rw [if_pos (show _ ∧ _ from by simp only [List.length_append, List.length_cons, List.length_nil]; exact ⟨by omega, by omega⟩)]); refine sM ?_) | refine gT ?_ | (clear hN N))
      exact WPV.desc ((Desc.re [] rfl).trans Desc.weakA) H'
  · obtain rfl : k = l.length := by omega
    rw [List.drop_length, fidx] at hJ
    rw [hJ] at hQ
    have hlt : ((l.length : Int) < (l.length : Int)) = False := by simp
    have hget : True := trivial
    have hb : True := trivial
    have hw : True := trivial
    refine loopV ?_
    have hz : True := trivial
    have hy := yieldedV_eq
    have hL := And.intro @hlt (And.intro @hget (And.intro @hb (@hw)))
    repeat' (first | (refine WPV.seqK ?_; intro N hN) | refine gA ?_ | (refine gR (M := noM) ?_; intro N hN ops hy) | (refine gD (M := noM) ?_; intro N hN; have hy := yieldedV_eq) | (refine WPV.condK ?_; intro A hA B hB) | (refine here ?_; refine sM ?_) | refine Both.mk ?_ ?_ | ((with_reducible refine CallO.gd 74 ?_); refine CallO.toA Tryz.call74 (tlong_s _ _) ?_) | ((with_reducible refine CallP.gd 74 ?_); refine CallP.toA Tryz.call74 (tlong_s _ _) ?_) | (refine hN _ ?_; try clear hN N; try clear hy ops) | (refine hA ?_; clear hA A hB B; try simp only [hz]) | (refine hB ?_; clear hA A hB B; try simp only [hz]) | (refine gG ?_ ?_ <;> (intro hz; have h := nm hz; try (exfalso; omega)) <;> (have hz := nz hz)) | ((first | rw [if_pos (show _ ∧ _ from ⟨by omega, by omega⟩)] | rw [if_pos (show _ ∧ _ from by simp only [List.length_append, List.length_cons, List.length_nil]; exact ⟨by omega, by omega⟩)]); refine sM ?_) | refine gT ?_ | (clear hN N))
    all_goals (first | exact retA hQ Tryz.results89 (Desc.re [] rfl) | exact retN hQ Tryz.results89 (Desc.re [] rfl))
theorem fidx_long (l : List Wr) : decide (0 ≤ fidx Wr.long l 0) = l.any Wr.long := fidx_any _ l 0
set_option maxRecDepth 100000 in
theorem long_any (l : List Wr) (hl : l.length ≤ 9223372036854775807) : Sp Tryz.prog K 73 [.sl 3 (wrl l), .fn 74 []] [] fun u hh => u = .sc (.bool (l.any Wr.long)) ∧ hh = [] := by
  have hq : decide (0 ≤ fidx Wr.long l 0) = l.any Wr.long := fidx_long l
  refine Sp.of_bodyD Tryz.func73 rfl ?_
  intro Q hQ
  simp only [List.replicate, List.length_cons, List.length_nil, Tryz.ntmps73, Nat.reduceAdd, Nat.reduceSub, List.cons_append, List.nil_append, go_sem]
  have hz : True := trivial
  have hy := yieldedV_eq
  have hL := @hq
  repeat' (first | (refine WPV.seqK ?_; intro N hN) | refine gA ?_ | (refine gR (M := noM) ?_; intro N hN ops hy) | (refine gD (M := noM) ?_; intro N hN; have hy := yieldedV_eq) | (refine WPV.condK ?_; intro A hA B hB) | (refine here ?_; refine sM ?_) | refine Both.mk ?_ ?_ | ((with_reducible refine CallO.gd 89 ?_); refine CallO.frA [] Tryz.call89 (long_ix l hl) ?_) | (refine hN _ ?_; try clear hN N; try clear hy ops) | (refine hA ?_; clear hA A hB B; try simp only [hz]) | (refine hB ?_; clear hA A hB B; try simp only [hz]) | (refine gG ?_ ?_ <;> (intro hz; have h := nm hz; try (exfalso; omega)) <;> (have hz := nz hz)) | ((first | rw [if_pos (show _ ∧ _ from ⟨by omega, by omega⟩)] | rw [if_pos (show _ ∧ _ from by simp only [List.length_append, List.length_cons, List.length_nil]; exact ⟨by omega, by omega⟩)]); refine sM ?_) | refine gT ?_ | (clear hN N))
  all_goals (first | exact retA hQ Tryz.results73 (Desc.re [] rfl) | exact retN hQ Tryz.results73 (Desc.re [] rfl))
set_option maxRecDepth 100000 in
set_option maxHeartbeats 2000000 in
theorem odd_ix (l : List Wr) (hl : l.length ≤ 9223372036854775807) : Sp Tryz.prog K 89 [.sl 3 (wrl l), .fn 75 []] [] fun u hh => u = .sc (.int .i64 (fidx Wr.odd l 0)) ∧ hh = [] := by
  have hlt : True := trivial
  have hget : True := trivial
  have hb : True := trivial
  have hw : True := trivial
  refine Sp.of_bodyD Tryz.func89 rfl ?_
  intro Q hQ
  simp only [List.replicate, List.length_cons, List.length_nil, Tryz.ntmps89, Nat.reduceAdd, Nat.reduceSub, List.cons_append, List.nil_append, go_sem]
  have hz : True := trivial
  have hy := yieldedV_eq
  have hL := And.intro @hlt (And.intro @hget (And.intro @hb (@hw)))
  repeat' (first | (refine WPV.seqK ?_; intro N hN) | refine gA ?_ | (refine gR (M := noM) ?_; intro N hN ops hy) | (refine gD (M := noM) ?_; intro N hN; have hy := yieldedV_eq) | (refine WPV.condK ?_; intro A hA B hB) | (refine here ?_; refine sM ?_) | refine Both.mk ?_ ?_ | ((with_reducible refine CallO.gd 75 ?_); refine CallO.toA Tryz.call75 (todd_s _ _) ?_) | ((with_reducible refine CallP.gd 75 ?_); refine CallP.toA Tryz.call75 (todd_s _ _) ?_) | (refine hN _ ?_; try clear hN N; try clear hy ops) | (refine hA ?_; clear hA A hB B; try simp only [hz]) | (refine hB ?_; clear hA A hB B; try simp only [hz]) | (refine gG ?_ ?_ <;> (intro hz; have h := nm hz; try (exfalso; omega)) <;> (have hz := nz hz)) | ((first | rw [if_pos (show _ ∧ _ from ⟨by omega, by omega⟩)] | rw [if_pos (show _ ∧ _ from by simp only [List.length_append, List.length_cons, List.length_nil]; exact ⟨by omega, by omega⟩)]); refine sM ?_) | refine gT ?_ | (clear hN N))
  refine WPV.desc (Desc.weakA (tm' := [.sl 3 (wrl l), .fn 75 [], .any, .any, .any, .any, .any, .sc (.int .i64 (l.length : Int)), .sc (.int .i64 0), .any, .any, .any, .any, .any, .any, .any, .any, .any, .any]) (h' := [])) ?_
  refine WPV.loopA (α := Nat) (fun k => l.length - k) (fun k => ⟨[.sl 3 (wrl l), .fn 75 [], .any, .any, .any, .any, .any, .sc (.int .i64 (l.length : Int)), .sc (.int .i64 ((k : Nat) : Int)), .any, .any, .any, .any, .any, .any, .any, .any, .any, .any], []⟩) (fun k => k ≤ l.length ∧ fidx Wr.odd l 0 = fidx Wr.odd (l.drop k) k) (fun k ⟨hk0, hJ⟩ H => ?_) 0 ⟨Nat.zero_le _, rfl⟩
  clear hlt hget hb hw
  by_cases h : k < l.length
  · have hlt : ((k : Int) < (l.length : Int)) = True := eq_true (by omega)
    have hget : l[k]? = some l[k] := List.getElem?_eq_getElem h
    have hw : IntKind.i64.wrap ((k : Int) + 1) = ((k + 1 : Nat) : Int) := by rw [wr_i64 (by omega) (by omega)]; rfl
    rw [List.drop_eq_getElem_cons h, fidx] at hJ
    generalize l[k] = a at hget hJ
    by_cases hb : a.odd = true
    · rw [if_pos hb] at hJ
      rw [hJ] at hQ
      refine loopV ?_
      have hz : True := trivial
      have hy := yieldedV_eq
      have hL := And.intro @hlt (And.intro @hget (And.intro @hb (@hw)))
      repeat' (first | (refine WPV.seqK ?_; intro N hN) | refine gA ?_ | (refine gR (M := noM) ?_; intro N hN ops hy) | (refine gD (M := noM) ?_; intro N hN; have hy := yieldedV_eq) | (refine WPV.condK ?_; intro A hA B hB) | (refine here ?_; refine sM ?_) | refine Both.mk ?_ ?_ | ((with_reducible refine CallO.gd 75 ?_); refine CallO.toA Tryz.call75 (todd_s _ _) ?_) | ((with_reducible refine CallP.gd 75 ?_); refine CallP.toA Tryz.call75 (todd_s _ _) ?_) | (refine hN _ ?_; try clear hN N; try clear hy ops) | (refine hA ?_; clear hA A hB B; try simp only [hz]) | (refine hB ?_; clear hA A hB B; try simp only [hz]) | (refine gG ?_ ?_ <;> (intro hz; have h := nm hz; try (exfalso; omega)) <;> (have hz := nz hz)) | ((first | rw [if_pos (show _ ∧ _ from ⟨by omega, by omega⟩)] | rw [if_pos (show _ ∧ _ from by simp only [List.length_append, List.length_cons, List.length_nil]; exact ⟨by omega, by omega⟩)]); refine sM ?_) | refine gT ?_ | (clear hN N))
      all_goals (first | exact retA hQ Tryz.results89 (Desc.re [] rfl) | exact retN hQ Tryz.results89 (Desc.re [] rfl))
    · rw [if_neg hb] at hJ
      have hb : a.odd = false := by simpa using hb
      have H' := H (k + 1) ⟨by omega, hJ⟩ (by omega)
      clear H
      refine loopV ?_
      have hz : True := trivial
      have hy := yieldedV_eq
      have hL := And.intro @hlt (And.intro @hget (And.intro @hb (@hw)))
      repeat' (first | (refine WPV.seqK ?_; intro N hN) | refine gA ?_ | (refine gR (M := noM) ?_; intro N hN ops hy) | (refine gD (M := noM) ?_; intro N hN; have hy := yieldedV_eq) | (refine WPV.condK ?_; intro A hA B hB) | (refine here ?_; refine sM ?_) | refine Both.mk ?_ ?_ | ((with_reducible refine CallO.gd 75 ?_); refine CallO.toA Tryz.call75 (todd_s _ _) ?_) | ((with_reducible refine CallP.gd 75 ?_); refine CallP.toA Tryz.call75 (todd_s _ _) ?_) | (refine hN _ ?_; try clear hN N; try clear hy ops) | (refine hA ?_; clear hA A hB B; try simp only [hz]) | (refine hB ?_; clear hA A hB B; try simp only [hz]) | (refine gG ?_ ?_ <;> (intro hz; have h := nm hz; try (exfalso; omega)) <;> (have hz := nz hz)) | ((first | rw [if_pos (show _ ∧ _ from ⟨by omega, by omega⟩)] | rw [if_pos (show _ ∧ _ from by simp only [List.length_append, List.length_cons, List.length_nil]; exact ⟨by omega, by omega⟩)]); refine sM ?_) | refine gT ?_ | (clear hN N))
      exact WPV.desc ((Desc.re [] rfl).trans Desc.weakA) H'
  · obtain rfl : k = l.length := by omega
    rw [List.drop_length, fidx] at hJ
    rw [hJ] at hQ
    have hlt : ((l.length : Int) < (l.length : Int)) = False := by simp
    have hget : True := trivial
    have hb : True := trivial
    have hw : True := trivial
    refine loopV ?_
    have hz : True := trivial
    have hy := yieldedV_eq
    have hL := And.intro @hlt (And.intro @hget (And.intro @hb (@hw)))
    repeat' (first | (refine WPV.seqK ?_; intro N hN) | refine gA ?_ | (refine gR (M := noM) ?_; intro N hN ops hy) | (refine gD (M := noM) ?_; intro N hN; have hy := yieldedV_eq) | (refine WPV.condK ?_; intro A hA B hB) | (refine here ?_; refine sM ?_) | refine Both.mk ?_ ?_ | ((with_reducible refine CallO.gd 75 ?_); refine CallO.toA Tryz.call75 (todd_s _ _) ?_) | ((with_reducible refine CallP.gd 75 ?_); refine CallP.toA Tryz.call75 (todd_s _ _) ?_) | (refine hN _ ?_; try clear hN N; try clear hy ops) | (refine hA ?_; clear hA A hB B; try simp only [hz]) | (refine hB ?_; clear hA A hB B; try simp only [hz]) | (refine gG ?_ ?_ <;> (intro hz; have h := nm hz; try (exfalso; omega)) <;> (have hz := nz hz)) | ((first | rw [if_pos (show _ ∧ _ from ⟨by omega, by omega⟩)] | rw [if_pos (show _ ∧ _ from by simp only [List.length_append, List.length_cons, List.length_nil]; exact ⟨by omega, by omega⟩)]); refine sM ?_) | refine gT ?_ | (clear hN N))
    all_goals (first | exact retA hQ Tryz.results89 (Desc.re [] rfl) | exact retN hQ Tryz.results89 (Desc.re [] rfl))
theorem fidx_odd (l : List Wr) : decide (0 ≤ fidx Wr.odd l 0) = l.any Wr.odd := fidx_any _ l 0
set_option maxRecDepth 100000 in
theorem odd_any (l : List Wr) (hl : l.length ≤ 9223372036854775807) : Sp Tryz.prog K 73 [.sl 3 (wrl l), .fn 75 []] [] fun u hh => u = .sc (.bool (l.any Wr.odd)) ∧ hh = [] := by
  have hq : decide (0 ≤ fidx Wr.odd l 0) = l.any Wr.odd := fidx_odd l
  refine Sp.of_bodyD Tryz.func73 rfl ?_
  intro Q hQ
  simp only [List.replicate, List.length_cons, List.length_nil, Tryz.ntmps73, Nat.reduceAdd, Nat.reduceSub, List.cons_append, List.nil_append, go_sem]
  have hz : True := trivial
  have hy := yieldedV_eq
  have hL := @hq
  repeat' (first | (refine WPV.seqK ?_; intro N hN) | refine gA ?_ | (refine gR (M := noM) ?_; intro N hN ops hy) | (refine gD (M := noM) ?_; intro N hN; have hy := yieldedV_eq) | (refine WPV.condK ?_; intro A hA B hB) | (refine here ?_; refine sM ?_) | refine Both.mk ?_ ?_ | ((with_reducible refine CallO.gd 89 ?_); refine CallO.frA [] Tryz.call89 (odd_ix l hl) ?_) | (refine hN _ ?_; try clear hN N; try clear hy ops) | (refine hA ?_; clear hA A hB B; try simp only [hz]) | (refine hB ?_; clear hA A hB B; try simp only [hz]) | (refine gG ?_ ?_ <;> (intro hz; have h := nm hz; try (exfalso; omega)) <;> (have hz := nz hz)) | ((first | rw [if_pos (show _ ∧ _ from ⟨by omega, by omega⟩)] | rw [if_pos (show _ ∧ _ from by simp only [List.length_append, List.length_cons, List.length_nil]; exact ⟨by omega, by omega⟩)]); refine sM ?_) | refine gT ?_ | (clear hN N))
  all_goals (first | exact retA hQ Tryz.results73 (Desc.re [] rfl) | exact retN hQ Tryz.results73 (Desc.re [] rfl))
end
end Go.Proofs.YtgfnpcmehnjopaaGreatDoor
end
section
namespace Go.Proofs.YtgfnpcmehnjopaaGreatDoor
open Go Go.RowKit
set_option linter.unusedVariables false
set_option linter.unusedSimpArgs false
variable {K : Nat → Obj → Prop}
structure Tx where
  o : Int
  s : Int
  c : Clk
  w : List Wr
abbrev txV (t : Tx) : V := .agg [.sc (.int .i64 t.o), .sc (.int .i64 t.s), .sc (.int .i64 t.c.x), .sc (.int .i64 t.c.y), .sc (.int .i64 t.c.z), .sl 3 (wrl t.w)]
def Clk.at_ (c : Clk) (o : Int) : Int := if o = 0 then c.x else if o = 1 then c.y else c.z
def checkF (t : Tx) : Int :=
  if t.o < 0 ∨ 2 < t.o then 9 else if t.s < 1 ∨ 4611686018427387903 < t.s ∨ rightF t.c = false then 1 else if t.c.at_ t.o ≠ t.s - 1 then 11
  else if 16 < t.w.length ∨ t.w.any Wr.long = true then 4 else if t.w.any Wr.odd = true then 3 else 0
theorem at_get2 (c : Clk) (o : Int) (a b : V) (l : List V) (h : 0 ≤ o ∧ o ≤ 2) : (a :: b :: V.sc (.int .i64 c.x) :: V.sc (.int .i64 c.y) :: V.sc (.int .i64 c.z) :: l)[2 + o.toNat]? = some (V.sc (.int .i64 (c.at_ o))) := by
  obtain rfl | rfl | rfl : o = 0 ∨ o = 1 ∨ o = 2 := by omega
  all_goals rfl
theorem check_tail {o s : Int} {c : Clk} {w : List Wr} (h1 : ¬ (o < 0 ∨ 2 < o)) (h2 : ¬ (s < 1 ∨ 4611686018427387903 < s)) (hr : rightF c = true) {d : Int} (hd : c.at_ o = d) :
    checkF ⟨o, s, c, w⟩ = if d ≠ s - 1 then 11 else if 16 < w.length then 4 else if w.any Wr.long = true then 4 else if w.any Wr.odd = true then 3 else 0 := by
  unfold checkF
  rw [if_neg h1, if_neg (by rw [hr]; simp; omega)]
  dsimp only
  rw [hd]
  by_cases h3 : d ≠ s - 1
  · rw [if_pos h3, if_pos h3]
  · rw [if_neg h3, if_neg h3]
    by_cases h4 : 16 < w.length
    · rw [if_pos (.inl h4), if_pos h4]
    · rw [if_neg h4]
      by_cases h5 : w.any Wr.long = true
      · rw [if_pos (.inr h5), if_pos h5]
      · rw [if_neg h5, if_neg (by simp [h5]; omega)]
theorem at_bd {c : Clk} {o d : Int} (hr : rightF c = true) (hd : c.at_ o = d) : 0 ≤ d ∧ d ≤ 4611686018427387903 := by
  obtain ⟨⟨a, b⟩, ⟨e, f⟩, g, h⟩ := right_bounds hr
  subst hd
  unfold Clk.at_
  split
  · omega
  · split <;> omega
set_option maxRecDepth 100000 in
set_option maxHeartbeats 4000000 in
theorem tcheck_s (t : Tx) (hl : t.w.length ≤ 9223372036854775807) : Sp Tryz.prog K 60 [txV t] [] fun u hh => u = .sc (.int .i64 (checkF t)) ∧ hh = [] := by
  obtain ⟨o, s, c, w⟩ := t
  have c1 := cright_s (K := K) c []
  have c2 := long_any (K := K) w hl
  have c3 := odd_any (K := K) w hl
  have hx0 := at_get2 c o (.sc (.int .i64 o)) (.sc (.int .i64 s)) [.sl 3 (wrl w)]
  obtain ⟨x, y, z⟩ := c
  dsimp only [clkV] at c1 hx0
  by_cases h1 : o < 0 ∨ 2 < o
  · have e : checkF ⟨o, s, ⟨x, y, z⟩, w⟩ = 9 := by unfold checkF; rw [if_pos h1]
    rw [e]
    have hx := True.intro
    refine Sp.of_bodyE Tryz.func60 rfl ?_
    intro Q hQ
    simp only [List.replicate, List.length_cons, List.length_nil, Tryz.ntmps60, Nat.reduceAdd, Nat.reduceSub, List.cons_append, List.nil_append, go_sem]
    have hz : True := trivial
    have hy := yieldedV_eq
    have hL := @hx
    repeat' (first | (refine WPV.seqK ?_; intro N hN) | refine gA ?_ | (refine gR (M := noM) ?_; intro N hN ops hy) | (refine gD (M := noM) ?_; intro N hN; have hy := yieldedV_eq) | (refine WPV.condK ?_; intro A hA B hB) | (refine here ?_; refine sS ?_) | refine Both.mk ?_ ?_ | ((with_reducible refine CallO.gd 72 ?_); refine CallO.frB [] Tryz.call72 (c1) ?_) | ((with_reducible refine CallO.gd 73 ?_); first | refine CallO.frB [] Tryz.call73 (c2) ?_ | refine CallO.frB [] Tryz.call73 (c3) ?_) | (refine hN _ ?_; try clear hN N; try clear hy ops) | (refine hA ?_; clear hA A hB B; try simp only [hz]) | (refine hB ?_; clear hA A hB B; try simp only [hz]) | (refine gG ?_ ?_ <;> (intro hz; have h := nm hz; try (exfalso; omega)) <;> (have hz := nz hz; try subst hz)) | (rw [if_pos (show _ ∧ _ from ⟨by omega, by omega⟩)]; refine sS ?_) | refine gT ?_ | (clear hN N))
    all_goals (first | exact retZ hQ Tryz.results60 (Desc.re [] rfl) | exact retZN hQ Tryz.results60 (Desc.re [] rfl))
  have hx := hx0 (by omega)
  by_cases h2 : s < 1 ∨ 4611686018427387903 < s ∨ rightF ⟨x, y, z⟩ = false
  · have e : checkF ⟨o, s, ⟨x, y, z⟩, w⟩ = 1 := by unfold checkF; rw [if_neg h1, if_pos h2]
    rw [e]
    cases hr : rightF ⟨x, y, z⟩ with
    | true =>
      rw [hr] at c1 h2
      have h2 : s < 1 ∨ 4611686018427387903 < s := by simpa using h2
      refine Sp.of_bodyE Tryz.func60 rfl ?_
      intro Q hQ
      simp only [List.replicate, List.length_cons, List.length_nil, Tryz.ntmps60, Nat.reduceAdd, Nat.reduceSub, List.cons_append, List.nil_append, go_sem]
      have hz : True := trivial
      have hy := yieldedV_eq
      have hL := @hx
      repeat' (first | (refine WPV.seqK ?_; intro N hN) | refine gA ?_ | (refine gR (M := noM) ?_; intro N hN ops hy) | (refine gD (M := noM) ?_; intro N hN; have hy := yieldedV_eq) | (refine WPV.condK ?_; intro A hA B hB) | (refine here ?_; refine sS ?_) | refine Both.mk ?_ ?_ | ((with_reducible refine CallO.gd 72 ?_); refine CallO.frB [] Tryz.call72 (c1) ?_) | ((with_reducible refine CallO.gd 73 ?_); first | refine CallO.frB [] Tryz.call73 (c2) ?_ | refine CallO.frB [] Tryz.call73 (c3) ?_) | (refine hN _ ?_; try clear hN N; try clear hy ops) | (refine hA ?_; clear hA A hB B; try simp only [hz]) | (refine hB ?_; clear hA A hB B; try simp only [hz]) | (refine gG ?_ ?_ <;> (intro hz; have h := nm hz; try (exfalso; omega)) <;> (have hz := nz hz; try subst hz)) | (rw [if_pos (show _ ∧ _ from ⟨by omega, by omega⟩)]; refine sS ?_) | refine gT ?_ | (clear hN N))
      all_goals (first | exact retZ hQ Tryz.results60 (Desc.re [] rfl) | exact retZN hQ Tryz.results60 (Desc.re [] rfl))
    | false =>
      rw [hr] at c1
      clear h2
      refine Sp.of_bodyE Tryz.func60 rfl ?_
      intro Q hQ
      simp only [List.replicate, List.length_cons, List.length_nil, Tryz.ntmps60, Nat.reduceAdd, Nat.reduceSub, List.cons_append, List.nil_append, go_sem]
      have hz : True := trivial
      have hy := yieldedV_eq
      have hL := @hx
      repeat' (first | (refine WPV.seqK ?_; intro N hN) | refine gA ?_ | (refine gR (M := noM) ?_; intro N hN ops hy) | (refine gD (M := noM) ?_; intro N hN; have hy := yieldedV_eq) | (refine WPV.condK ?_; intro A hA B hB) | (refine here ?_; refine sS ?_) | refine Both.mk ?_ ?_ | ((with_reducible refine CallO.gd 72 ?_); refine CallO.frB [] Tryz.call72 (c1) ?_) | ((with_reducible refine CallO.gd 73 ?_); first | refine CallO.frB [] Tryz.call73 (c2) ?_ | refine CallO.frB [] Tryz.call73 (c3) ?_) | (refine hN _ ?_; try clear hN N; try clear hy ops) | (refine hA ?_; clear hA A hB B; try simp only [hz]) | (refine hB ?_; clear hA A hB B; try simp only [hz]) | (refine gG ?_ ?_ <;> (intro hz; have h := nm hz; try (exfalso; omega)) <;> (have hz := nz hz; try subst hz)) | (rw [if_pos (show _ ∧ _ from ⟨by omega, by omega⟩)]; refine sS ?_) | refine gT ?_ | (clear hN N))
      all_goals (first | exact retZ hQ Tryz.results60 (Desc.re [] rfl) | exact retZN hQ Tryz.results60 (Desc.re [] rfl))
  have hr : rightF ⟨x, y, z⟩ = true := by
    cases h : rightF ⟨x, y, z⟩
    · exact absurd (.inr (.inr h)) h2
    · rfl
  have h2 : ¬ (s < 1 ∨ 4611686018427387903 < s) := fun h => h2 (by rcases h with h | h <;> simp [h])
  obtain ⟨d, hd⟩ : ∃ d, Clk.at_ ⟨x, y, z⟩ o = d := ⟨_, rfl⟩
  rw [check_tail h1 h2 hr hd]
  rw [hr] at c1
  rw [hd] at hx
  have hdb := at_bd hr hd
  generalize w.any Wr.long = a at *
  generalize w.any Wr.odd = b at *
  clear hx0
  refine Sp.of_bodyE Tryz.func60 rfl ?_
  intro Q hQ
  simp only [List.replicate, List.length_cons, List.length_nil, Tryz.ntmps60, Nat.reduceAdd, Nat.reduceSub, List.cons_append, List.nil_append, go_sem]
  have hz : True := trivial
  have hy := yieldedV_eq
  have hL := @hx
  repeat' (first | (refine WPV.seqK ?_; intro N hN) | refine gA ?_ | (refine gR (M := noM) ?_; intro N hN ops hy) | (refine gD (M := noM) ?_; intro N hN; have hy := yieldedV_eq) | (refine WPV.condK ?_; intro A hA B hB) | (refine here ?_; refine sS ?_) | refine Both.mk ?_ ?_ | ((with_reducible refine CallO.gd 72 ?_); refine CallO.frB [] Tryz.call72 (c1) ?_) | ((with_reducible refine CallO.gd 73 ?_); first | refine CallO.frB [] Tryz.call73 (c2) ?_ | refine CallO.frB [] Tryz.call73 (c3) ?_) | (refine hN _ ?_; try clear hN N; try clear hy ops) | (refine hA ?_; clear hA A hB B; try simp only [hz]) | (refine hB ?_; clear hA A hB B; try simp only [hz]) | (refine gG ?_ ?_ <;> (intro hz; have h := nm hz; try (exfalso; omega)) <;> (have hz := nz hz; try subst hz)) | (rw [if_pos (show _ ∧ _ from ⟨by omega, by omega⟩)]; refine sS ?_) | refine gT ?_ | (clear hN N))
  all_goals (first | exact retZ hQ Tryz.results60 (Desc.re [] rfl) | exact retZN hQ Tryz.results60 (Desc.re [] rfl))
end Go.Proofs.YtgfnpcmehnjopaaGreatDoor
end
