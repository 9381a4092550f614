/- Walk through the law ClockOrder. -/
import Derived.Test.YtfcbpdokilidgaaClkA
namespace Go.Proofs.Ytfcbpdokilidgaa
open Go.RowKit
set_option linter.unusedVariables false
set_option linter.unusedSimpArgs false
attribute [local go_sem] Gv

theorem cov_iff (a b : Clk) : covF a b = true ↔ b.x ≤ a.x ∧ b.y ≤ a.y ∧ b.z ≤ a.z := by
  simp only [covF, Bool.and_eq_true, decide_eq_true_eq, and_assoc]
theorem upd_max (o n : Int) : upd false o n = if o < n then n else o := by
  unfold upd; simp
theorem merge2 (a b : Clk) : mergeF [a, b] = updC false a b := rfl
theorem cov_merge_l (a b : Clk) : covF (mergeF [a, b]) a = true := by
  rw [cov_iff, merge2]; simp only [updC, upd_max]; refine ⟨?_, ?_, ?_⟩ <;> split <;> omega
theorem cov_merge_r (a b : Clk) : covF (mergeF [a, b]) b = true := by
  rw [cov_iff, merge2]; simp only [updC, upd_max]; refine ⟨?_, ?_, ?_⟩ <;> split <;> omega
theorem cov_self (a : Clk) : covF a a = true := by rw [cov_iff]; omega
theorem merge_comm (a b : Clk) : mergeF [a, b] = mergeF [b, a] := by
  rw [merge2, merge2]; simp only [updC, upd_max, Clk.mk.injEq]; refine ⟨?_, ?_, ?_⟩ <;> split <;> split <;> omega
theorem merge_assoc (a b c : Clk) : mergeF [mergeF [a, b], c] = mergeF [a, mergeF [b, c]] := by
  simp only [merge2, updC, upd_max, Clk.mk.injEq]
  refine ⟨?_, ?_, ?_⟩ <;> (repeat' split) <;> omega
theorem cov_of_merge (a b c : Clk) (h : covF c a = true) : covF c b = covF c (mergeF [a, b]) := by
  rw [Bool.eq_iff_iff, cov_iff, cov_iff]
  rw [cov_iff] at h
  rw [merge2]
  simp only [updC, upd_max]
  constructor
  · intro h2; refine ⟨?_, ?_, ?_⟩ <;> split <;> omega
  · rintro ⟨h1, h2, h3⟩
    refine ⟨?_, ?_, ?_⟩
    · split at h1 <;> omega
    · split at h2 <;> omega
    · split at h3 <;> omega
theorem cov_trans {a b c : Clk} (h : covF a b = true) (k : covF b c = true) : covF a c = true := by
  rw [cov_iff] at *; omega
theorem cov_eq {a b : Clk} (h : covF a b = true) : covF b a = decide (a = b) := by
  rw [Bool.eq_iff_iff, cov_iff, decide_eq_true_eq]
  rw [cov_iff] at h
  obtain ⟨ax, ay, az⟩ := a
  obtain ⟨bx, bcy, bz⟩ := b
  simp only [Clk.mk.injEq] at *
  omega
theorem step_cov {c : Clk} {o : Int} (h : (stepF c o).2 = 0) : covF (stepF c o).1 c = true ∧ covF c (stepF c o).1 = false := by
  unfold stepF at *
  split
  · next h1 => rw [if_pos h1] at h; exact absurd h (by simp)
  · next h1 =>
    rw [if_neg h1] at h
    split
    · next h2 => rw [if_pos h2] at h; exact absurd h (by simp)
    · next h2 =>
      rw [if_neg h2] at h
      split
      · next h3 => rw [if_pos h3] at h; exact absurd h (by simp)
      · rw [← Bool.not_eq_true, cov_iff, cov_iff]
        unfold setC getC
        split
        · dsimp only; omega
        · split
          · dsimp only; omega
          · dsimp only; omega
--WALK
set_option maxRecDepth 100000 in
set_option maxHeartbeats 2000000 in
theorem corder_c (a b c : Clk) (k : Int) (hk1 : 0 ≤ k) (hk2 : k < 256) (w : World) : Calls Try.prog 9 #[cv a, cv b, cv c, .int .u8 k] w (RetV w (.bool true)) := by
  have KA := Lib.hid (((Bx.new w a).alloc (.cells #[.int .i64 b.x, .int .i64 b.y, .int .i64 b.z] 54)).alloc (.cells #[.int .i64 c.x, .int .i64 c.y, .int .i64 c.z] 54))
  have KB := Lib.hid ((Bx.new (w.alloc (.cells #[.int .i64 a.x, .int .i64 a.y, .int .i64 a.z] 54)) b).alloc (.cells #[.int .i64 c.x, .int .i64 c.y, .int .i64 c.z] 54))
  have KK := Lib.hid (Bx.new ((w.alloc (.cells #[.int .i64 a.x, .int .i64 a.y, .int .i64 a.z] 54)).alloc (.cells #[.int .i64 b.x, .int .i64 b.y, .int .i64 b.z] 54)) c)
  have KC := Lib.hid (gthen (gthen (galloc w (.cells #[.int .i64 a.x, .int .i64 a.y, .int .i64 a.z] 54)) (galloc _ (.cells #[.int .i64 b.x, .int .i64 b.y, .int .i64 b.z] 54))) (galloc _ (.cells #[.int .i64 c.x, .int .i64 c.y, .int .i64 c.z] 54)))
  simp only [World.size_alloc] at KA KB KK
  obtain ⟨M, hM⟩ : ∃ M, mergeF [a, b] = M := ⟨_, rfl⟩
  have HM := Lib.hid hM
  clear hM
  go_enter Try.func9, Try.ntmps9
  unfold cv
  go_wp2_with fail
  refine (awake04_c _).mono ?_
  rintro e w1 ⟨rfl, hb1⟩
  replace KA := Lib.hid (KA.out.below hb1)
  replace KB := Lib.hid (KB.out.below hb1)
  replace KK := Lib.hid (KK.out.below hb1)
  replace KC := Lib.hid (gthen KC.out hb1)
  clear hb1
  have fa0 := KA.out.c0
  have fa1 := KA.out.c1
  have fa2 := KA.out.c2
  have fb0 := KB.out.c0
  have fb1 := KB.out.c1
  have fb2 := KB.out.c2
  go_wp2_with fail
  clear fa0 fa1 fa2 fb0 fb1 fb2
  refine (merge_c _ [a, b] _ (Sc.new w1 _ [a, b] _ rfl (by simp) 2 rfl)).mono ?_
  rw [HM.out]
  rintro e w2 ⟨rfl, hb2⟩
  have bq := gthen (gthen (galloc w1 _) hb2) (galloc w2 (.cells #[.int .i64 M.x, .int .i64 M.y, .int .i64 M.z] 54))
  have KM := Lib.hid (Bx.new w2 M)
  replace KA := Lib.hid (KA.out.below bq)
  replace KB := Lib.hid (KB.out.below bq)
  replace KK := Lib.hid (KK.out.below bq)
  replace KC := Lib.hid (gthen KC.out bq)
  clear hb2 bq
  unfold cv
  go_wp2_with fail
  generalize w2.alloc (.cells #[.int .i64 M.x, .int .i64 M.y, .int .i64 M.z] 54) = w3 at *
  obtain ⟨gm, hgm⟩ : ∃ gm, w2.heap.size = gm := ⟨_, rfl⟩
  rw [hgm] at KM ⊢
  clear hgm
  obtain ⟨X, hX⟩ : ∃ X, mergeF [M, c] = X := ⟨_, rfl⟩
  obtain ⟨Y, hY⟩ : ∃ Y, mergeF [b, c] = Y := ⟨_, rfl⟩
  have HX := Lib.hid hX
  have HY := Lib.hid hY
  clear hX hY
  refine wp_region_gr' (by kernel_rfl) (by kernel_rfl) ?_
  intro ops hop
  apply wpG_det (v := .agg #[.int .i64 M.x, .int .i64 M.y, .int .i64 M.z])
  exact fun _ => by rw [hop.out]; rfl
  · intro us w' hE hH
    have q0 := (KM.out.below hE).c0
    have q1 := (KM.out.below hE).c1
    have q2 := (KM.out.below hE).c2
    go_simp
    exact ⟨Gr.refl _, rfl⟩
  intro us
  go_simp
  exact rfl
  apply wpG_det (v := .agg #[.int .i64 a.x, .int .i64 a.y, .int .i64 a.z])
  exact fun _ => by rw [hop.out]; rfl
  · intro us w' hE hH
    have q0 := (KA.out.below hE).c0
    have q1 := (KA.out.below hE).c1
    have q2 := (KA.out.below hE).c2
    go_simp
    exact ⟨Gr.refl _, rfl⟩
  intro us
  go_simp
  exact rfl
  apply wpG_det (v := Value.bool true)
  exact fun _ => by rw [hop.out]; rfl
  · intro us w' hE hH
    go_simp
    refine (covers_c M a w').mono ?_
    rw [show covF M a = true from by rw [← HM.out]; exact cov_merge_l a b]
    rintro e w'' ⟨rfl, hb⟩
    exact ⟨_, rfl, hb, rfl⟩
  intro us
  go_simp
  exact rfl
  repeat
    apply wpG_det
    exact fun _ => by rw [hop.out]; rfl
    intro us w' hE hH
    go_simp
    exact ⟨Gr.refl _, rfl⟩
    intro us
    go_simp
    exact rfl
  apply wpG_det (v := .agg #[.int .i64 M.x, .int .i64 M.y, .int .i64 M.z])
  exact fun _ => by rw [hop.out]; rfl
  · intro us w' hE hH
    have q0 := (KM.out.below hE).c0
    have q1 := (KM.out.below hE).c1
    have q2 := (KM.out.below hE).c2
    go_simp
    exact ⟨Gr.refl _, rfl⟩
  intro us
  go_simp
  exact rfl
  apply wpG_det (v := .agg #[.int .i64 b.x, .int .i64 b.y, .int .i64 b.z])
  exact fun _ => by rw [hop.out]; rfl
  · intro us w' hE hH
    have q0 := (KB.out.below hE).c0
    have q1 := (KB.out.below hE).c1
    have q2 := (KB.out.below hE).c2
    go_simp
    exact ⟨Gr.refl _, rfl⟩
  intro us
  go_simp
  exact rfl
  apply wpG_det (v := Value.bool true)
  exact fun _ => by rw [hop.out]; rfl
  · intro us w' hE hH
    go_simp
    refine (covers_c M b w').mono ?_
    rw [show covF M b = true from by rw [← HM.out]; exact cov_merge_r a b]
    rintro e w'' ⟨rfl, hb⟩
    exact ⟨_, rfl, hb, rfl⟩
  intro us
  go_simp
  exact rfl
  repeat
    apply wpG_det
    exact fun _ => by rw [hop.out]; rfl
    intro us w' hE hH
    go_simp
    exact ⟨Gr.refl _, rfl⟩
    intro us
    go_simp
    exact rfl
  apply wpG_det (v := .agg #[.int .i64 a.x, .int .i64 a.y, .int .i64 a.z])
  exact fun _ => by rw [hop.out]; rfl
  · intro us w' hE hH
    have q0 := (KA.out.below hE).c0
    have q1 := (KA.out.below hE).c1
    have q2 := (KA.out.below hE).c2
    go_simp
    exact ⟨Gr.refl _, rfl⟩
  intro us
  go_simp
  exact rfl
  apply wpG_det (v := .agg #[.int .i64 a.x, .int .i64 a.y, .int .i64 a.z])
  exact fun _ => by rw [hop.out]; rfl
  · intro us w' hE hH
    have q0 := (KA.out.below hE).c0
    have q1 := (KA.out.below hE).c1
    have q2 := (KA.out.below hE).c2
    go_simp
    exact ⟨Gr.refl _, rfl⟩
  intro us
  go_simp
  exact rfl
  apply wpG_det (v := Value.bool true)
  exact fun _ => by rw [hop.out]; rfl
  · intro us w' hE hH
    go_simp
    refine (covers_c a a w').mono ?_
    rw [cov_self]
    rintro e w'' ⟨rfl, hb⟩
    exact ⟨_, rfl, hb, rfl⟩
  intro us
  go_simp
  exact rfl
  repeat
    apply wpG_det
    exact fun _ => by rw [hop.out]; rfl
    intro us w' hE hH
    go_simp
    exact ⟨Gr.refl _, rfl⟩
    intro us
    go_simp
    exact rfl
  apply wpG_det (v := .agg #[.int .i64 M.x, .int .i64 M.y, .int .i64 M.z])
  exact fun _ => by rw [hop.out]; rfl
  · intro us w' hE hH
    have q0 := (KM.out.below hE).c0
    have q1 := (KM.out.below hE).c1
    have q2 := (KM.out.below hE).c2
    go_simp
    exact ⟨Gr.refl _, rfl⟩
  intro us
  go_simp
  exact rfl
  apply wpG_det (v := .agg #[.int .i64 b.x, .int .i64 b.y, .int .i64 b.z])
  exact fun _ => by rw [hop.out]; rfl
  · intro us w' hE hH
    have q0 := (KB.out.below hE).c0
    have q1 := (KB.out.below hE).c1
    have q2 := (KB.out.below hE).c2
    go_simp
    exact ⟨Gr.refl _, rfl⟩
  intro us
  go_simp
  exact rfl
  apply wpG_det (v := .agg #[.int .i64 a.x, .int .i64 a.y, .int .i64 a.z])
  exact fun _ => by rw [hop.out]; rfl
  · intro us w' hE hH
    have q0 := (KA.out.below hE).c0
    have q1 := (KA.out.below hE).c1
    have q2 := (KA.out.below hE).c2
    go_simp
    exact ⟨Gr.refl _, rfl⟩
  intro us
  go_simp
  exact rfl
  apply wpG_sat (fun u w => Sc w u [b, a]) (fun _ _ _ h hb => h.below hb)
  exact fun _ => by rw [hop.out]; rfl
  · intro us w' hE hH
    go_simp
    exact ⟨galloc _ _, Sc.new w' _ [b, a] _ rfl (by simp) 2 rfl⟩
  intro us
  go_simp
  exact rfl
  apply wpG_det (v := .agg #[.int .i64 M.x, .int .i64 M.y, .int .i64 M.z])
  exact fun _ => by rw [hop.out]; rfl
  · intro us w' hE hH
    go_simp
    refine (merge_c _ [b, a] w' (hH.1 rfl)).mono ?_
    rw [show mergeF [b, a] = M from by rw [← HM.out, merge_comm]]
    rintro e w'' ⟨rfl, hb⟩
    exact ⟨_, rfl, hb, rfl⟩
  intro us
  go_simp
  exact rfl
  apply wpG_det (v := Value.bool false)
  exact fun _ => by rw [hop.out]; rfl
  · intro us w' hE hH
    have q : ∀ W, (Op.equalIn 10000 54 (.agg #[.int .i64 M.x, .int .i64 M.y, .int .i64 M.z]) (.agg #[.int .i64 M.x, .int .i64 M.y, .int .i64 M.z])).run Try.prog W = .ok true W := fun W => (eq_clk M M W).trans (by rw [decide_eq_true rfl])
    go_simp
    exact ⟨Gr.refl _, rfl⟩
  intro us
  go_simp
  exact rfl
  repeat
    apply wpG_det
    exact fun _ => by rw [hop.out]; rfl
    intro us w' hE hH
    go_simp
    exact ⟨Gr.refl _, rfl⟩
    intro us
    go_simp
    exact rfl
  apply wpG_det (v := .agg #[.int .i64 M.x, .int .i64 M.y, .int .i64 M.z])
  exact fun _ => by rw [hop.out]; rfl
  · intro us w' hE hH
    have q0 := (KM.out.below hE).c0
    have q1 := (KM.out.below hE).c1
    have q2 := (KM.out.below hE).c2
    go_simp
    exact ⟨Gr.refl _, rfl⟩
  intro us
  go_simp
  exact rfl
  apply wpG_det (v := .agg #[.int .i64 c.x, .int .i64 c.y, .int .i64 c.z])
  exact fun _ => by rw [hop.out]; rfl
  · intro us w' hE hH
    have q0 := (KK.out.below hE).c0
    have q1 := (KK.out.below hE).c1
    have q2 := (KK.out.below hE).c2
    go_simp
    exact ⟨Gr.refl _, rfl⟩
  intro us
  go_simp
  exact rfl
  apply wpG_sat (fun u w => Sc w u [M, c]) (fun _ _ _ h hb => h.below hb)
  exact fun _ => by rw [hop.out]; rfl
  · intro us w' hE hH
    go_simp
    exact ⟨galloc _ _, Sc.new w' _ [M, c] _ rfl (by simp) 2 rfl⟩
  intro us
  go_simp
  exact rfl
  apply wpG_det (v := .agg #[.int .i64 X.x, .int .i64 X.y, .int .i64 X.z])
  exact fun _ => by rw [hop.out]; rfl
  · intro us w' hE hH
    go_simp
    refine (merge_c _ [M, c] w' (hH.1 rfl)).mono ?_
    rw [show mergeF [M, c] = X from HX.out]
    rintro e w'' ⟨rfl, hb⟩
    exact ⟨_, rfl, hb, rfl⟩
  intro us
  go_simp
  exact rfl
  apply wpG_det (v := .agg #[.int .i64 a.x, .int .i64 a.y, .int .i64 a.z])
  exact fun _ => by rw [hop.out]; rfl
  · intro us w' hE hH
    have q0 := (KA.out.below hE).c0
    have q1 := (KA.out.below hE).c1
    have q2 := (KA.out.below hE).c2
    go_simp
    exact ⟨Gr.refl _, rfl⟩
  intro us
  go_simp
  exact rfl
  apply wpG_det (v := .agg #[.int .i64 b.x, .int .i64 b.y, .int .i64 b.z])
  exact fun _ => by rw [hop.out]; rfl
  · intro us w' hE hH
    have q0 := (KB.out.below hE).c0
    have q1 := (KB.out.below hE).c1
    have q2 := (KB.out.below hE).c2
    go_simp
    exact ⟨Gr.refl _, rfl⟩
  intro us
  go_simp
  exact rfl
  apply wpG_det (v := .agg #[.int .i64 c.x, .int .i64 c.y, .int .i64 c.z])
  exact fun _ => by rw [hop.out]; rfl
  · intro us w' hE hH
    have q0 := (KK.out.below hE).c0
    have q1 := (KK.out.below hE).c1
    have q2 := (KK.out.below hE).c2
    go_simp
    exact ⟨Gr.refl _, rfl⟩
  intro us
  go_simp
  exact rfl
  apply wpG_sat (fun u w => Sc w u [b, c]) (fun _ _ _ h hb => h.below hb)
  exact fun _ => by rw [hop.out]; rfl
  · intro us w' hE hH
    go_simp
    exact ⟨galloc _ _, Sc.new w' _ [b, c] _ rfl (by simp) 2 rfl⟩
  intro us
  go_simp
  exact rfl
  apply wpG_det (v := .agg #[.int .i64 Y.x, .int .i64 Y.y, .int .i64 Y.z])
  exact fun _ => by rw [hop.out]; rfl
  · intro us w' hE hH
    go_simp
    refine (merge_c _ [b, c] w' (hH.1 rfl)).mono ?_
    rw [show mergeF [b, c] = Y from HY.out]
    rintro e w'' ⟨rfl, hb⟩
    exact ⟨_, rfl, hb, rfl⟩
  intro us
  go_simp
  exact rfl
  apply wpG_sat (fun u w => Sc w u [a, Y]) (fun _ _ _ h hb => h.below hb)
  exact fun _ => by rw [hop.out]; rfl
  · intro us w' hE hH
    go_simp
    exact ⟨galloc _ _, Sc.new w' _ [a, Y] _ rfl (by simp) 2 rfl⟩
  intro us
  go_simp
  exact rfl
  apply wpG_det (v := .agg #[.int .i64 X.x, .int .i64 X.y, .int .i64 X.z])
  exact fun _ => by rw [hop.out]; rfl
  · intro us w' hE hH
    go_simp
    refine (merge_c _ [a, Y] w' (hH.1 rfl)).mono ?_
    rw [show mergeF [a, Y] = X from by rw [← HX.out, ← HY.out, ← HM.out, merge_assoc]]
    rintro e w'' ⟨rfl, hb⟩
    exact ⟨_, rfl, hb, rfl⟩
  intro us
  go_simp
  exact rfl
  apply wpG_det (v := Value.bool false)
  exact fun _ => by rw [hop.out]; rfl
  · intro us w' hE hH
    have q : ∀ W, (Op.equalIn 10000 54 (.agg #[.int .i64 X.x, .int .i64 X.y, .int .i64 X.z]) (.agg #[.int .i64 X.x, .int .i64 X.y, .int .i64 X.z])).run Try.prog W = .ok true W := fun W => (eq_clk X X W).trans (by rw [decide_eq_true rfl])
    go_simp
    exact ⟨Gr.refl _, rfl⟩
  intro us
  go_simp
  exact rfl
  repeat
    apply wpG_det
    exact fun _ => by rw [hop.out]; rfl
    intro us w' hE hH
    go_simp
    exact ⟨Gr.refl _, rfl⟩
    intro us
    go_simp
    exact rfl
  intro us w4 hE _
  clear hop
  replace KA := Lib.hid (KA.out.below hE)
  replace KB := Lib.hid (KB.out.below hE)
  replace KK := Lib.hid (KK.out.below hE)
  replace KM := Lib.hid (KM.out.below hE)
  replace KC := Lib.hid (gthen KC.out hE)
  clear hE
  go_wp2_with fail
  cases hp : covF c a
  · have HP : Hid (covF c a = false) := Lib.hid hp
    clear hp
    refine wp_region_gr' (by kernel_rfl) (by kernel_rfl) ?_
    intro ops hop
    apply wpG_det (v := .agg #[.int .i64 c.x, .int .i64 c.y, .int .i64 c.z])
    exact fun _ => by rw [hop.out]; rfl
    · intro us w' hE hH
      have q0 := (KK.out.below hE).c0
      have q1 := (KK.out.below hE).c1
      have q2 := (KK.out.below hE).c2
      go_simp
      exact ⟨Gr.refl _, rfl⟩
    intro us
    go_simp
    exact rfl
    apply wpG_det (v := .agg #[.int .i64 a.x, .int .i64 a.y, .int .i64 a.z])
    exact fun _ => by rw [hop.out]; rfl
    · intro us w' hE hH
      have q0 := (KA.out.below hE).c0
      have q1 := (KA.out.below hE).c1
      have q2 := (KA.out.below hE).c2
      go_simp
      exact ⟨Gr.refl _, rfl⟩
    intro us
    go_simp
    exact rfl
    apply wpG_det (v := Value.bool false)
    exact fun _ => by rw [hop.out]; rfl
    · intro us w' hE hH
      go_simp
      refine (covers_c c a w').mono ?_
      rw [show covF c a = false from HP.out]
      rintro e w'' ⟨rfl, hb⟩
      exact ⟨_, rfl, hb, rfl⟩
    intro us
    go_simp
    exact rfl
    repeat
      apply wpG_det
      exact fun _ => by rw [hop.out]; rfl
      intro us w' hE hH
      go_simp
      exact ⟨Gr.refl _, rfl⟩
      intro us
      go_simp
      exact rfl
    repeat
      apply wpG_off
      exact fun _ => by rw [hop.out]; rfl
      intro us
      go_simp
      exact rfl
    repeat
      apply wpG_det
      exact fun _ => by rw [hop.out]; rfl
      intro us w' hE hH
      go_simp
      exact ⟨Gr.refl _, rfl⟩
      intro us
      go_simp
      exact rfl
    intro us w5 hE _
    clear hop
    replace KA := Lib.hid (KA.out.below hE)
    replace KB := Lib.hid (KB.out.below hE)
    replace KK := Lib.hid (KK.out.below hE)
    replace KM := Lib.hid (KM.out.below hE)
    replace KC := Lib.hid (gthen KC.out hE)
    clear hE
    go_wp2_with fail
    cases hr : covF a b
    · have HR : Hid (covF a b = false) := Lib.hid hr
      clear hr
      refine wp_region_gr' (by kernel_rfl) (by kernel_rfl) ?_
      intro ops hop
      apply wpG_det (v := .agg #[.int .i64 a.x, .int .i64 a.y, .int .i64 a.z])
      exact fun _ => by rw [hop.out]; rfl
      · intro us w' hE hH
        have q0 := (KA.out.below hE).c0
        have q1 := (KA.out.below hE).c1
        have q2 := (KA.out.below hE).c2
        go_simp
        exact ⟨Gr.refl _, rfl⟩
      intro us
      go_simp
      exact rfl
      apply wpG_det (v := .agg #[.int .i64 b.x, .int .i64 b.y, .int .i64 b.z])
      exact fun _ => by rw [hop.out]; rfl
      · intro us w' hE hH
        have q0 := (KB.out.below hE).c0
        have q1 := (KB.out.below hE).c1
        have q2 := (KB.out.below hE).c2
        go_simp
        exact ⟨Gr.refl _, rfl⟩
      intro us
      go_simp
      exact rfl
      apply wpG_det (v := Value.bool false)
      exact fun _ => by rw [hop.out]; rfl
      · intro us w' hE hH
        go_simp
        refine (covers_c a b w').mono ?_
        rw [show covF a b = false from HR.out]
        rintro e w'' ⟨rfl, hb⟩
        exact ⟨_, rfl, hb, rfl⟩
      intro us
      go_simp
      exact rfl
      repeat
        apply wpG_det
        exact fun _ => by rw [hop.out]; rfl
        intro us w' hE hH
        go_simp
        exact ⟨Gr.refl _, rfl⟩
        intro us
        go_simp
        exact rfl
      repeat
        apply wpG_off
        exact fun _ => by rw [hop.out]; rfl
        intro us
        go_simp
        exact rfl
      repeat
        apply wpG_det
        exact fun _ => by rw [hop.out]; rfl
        intro us w' hE hH
        go_simp
        exact ⟨Gr.refl _, rfl⟩
        intro us
        go_simp
        exact rfl
      repeat
        apply wpG_off
        exact fun _ => by rw [hop.out]; rfl
        intro us
        go_simp
        exact rfl
      repeat
        apply wpG_det
        exact fun _ => by rw [hop.out]; rfl
        intro us w' hE hH
        go_simp
        exact ⟨Gr.refl _, rfl⟩
        intro us
        go_simp
        exact rfl
      apply wpG_det (v := .agg #[.int .i64 a.x, .int .i64 a.y, .int .i64 a.z])
      exact fun _ => by rw [hop.out]; rfl
      · intro us w' hE hH
        have q0 := (KA.out.below hE).c0
        have q1 := (KA.out.below hE).c1
        have q2 := (KA.out.below hE).c2
        go_simp
        exact ⟨Gr.refl _, rfl⟩
      intro us
      go_simp
      exact rfl
      apply wpG_det (v := .agg #[.int .i64 b.x, .int .i64 b.y, .int .i64 b.z])
      exact fun _ => by rw [hop.out]; rfl
      · intro us w' hE hH
        have q0 := (KB.out.below hE).c0
        have q1 := (KB.out.below hE).c1
        have q2 := (KB.out.below hE).c2
        go_simp
        exact ⟨Gr.refl _, rfl⟩
      intro us
      go_simp
      exact rfl
      apply wpG_det (v := Value.bool false)
      exact fun _ => by rw [hop.out]; rfl
      · intro us w' hE hH
        go_simp
        refine (covers_c a b w').mono ?_
        rw [show covF a b = false from HR.out]
        rintro e w'' ⟨rfl, hb⟩
        exact ⟨_, rfl, hb, rfl⟩
      intro us
      go_simp
      exact rfl
      repeat
        apply wpG_det
        exact fun _ => by rw [hop.out]; rfl
        intro us w' hE hH
        go_simp
        exact ⟨Gr.refl _, rfl⟩
        intro us
        go_simp
        exact rfl
      repeat
        apply wpG_off
        exact fun _ => by rw [hop.out]; rfl
        intro us
        go_simp
        exact rfl
      repeat
        apply wpG_det
        exact fun _ => by rw [hop.out]; rfl
        intro us w' hE hH
        go_simp
        exact ⟨Gr.refl _, rfl⟩
        intro us
        go_simp
        exact rfl
      intro us w6 hE _
      clear hop
      replace KA := Lib.hid (KA.out.below hE)
      replace KB := Lib.hid (KB.out.below hE)
      replace KK := Lib.hid (KK.out.below hE)
      replace KM := Lib.hid (KM.out.below hE)
      replace KC := Lib.hid (gthen KC.out hE)
      clear hE
      have q0 := KA.out.c0
      have q1 := KA.out.c1
      have q2 := KA.out.c2
      go_wp2_with fail
      clear q0 q1 q2
      refine (step_c a (k % 3) _ (by omega) (by omega)).mono ?_
      have hst := @step_cov a (k % 3)
      unfold pv
      generalize (stepF a (k % 3)).1 = d at *
      generalize (stepF a (k % 3)).2 = er at *
      rintro e w7 ⟨rfl, hb7⟩
      have KD := Lib.hid (Bx.new w7 d)
      have bq := gthen hb7 (galloc w7 (.cells #[.int .i64 d.x, .int .i64 d.y, .int .i64 d.z] 54))
      replace KA := Lib.hid (KA.out.below bq)
      replace KC := Lib.hid (gthen KC.out bq)
      clear bq hb7 KB KK KM
      by_cases he : er = 0
      · obtain ⟨s1, s2⟩ := hst he
        have HS1 := Lib.hid s1
        have HS2 := Lib.hid s2
        subst he
        clear hst s1 s2
        have q0 := KA.out.c0
        have q1 := KA.out.c1
        have q2 := KA.out.c2
        unfold cv
        go_wp2_with fail
        clear q0 q1 q2
        refine (covers_c d a _).mono ?_
        rw [HS1.out]
        rintro e w8 ⟨rfl, hb8⟩
        replace KA := Lib.hid (KA.out.below hb8)
        have d0 := (KD.out.below hb8).c0
        have d1 := (KD.out.below hb8).c1
        have d2 := (KD.out.below hb8).c2
        replace KC := Lib.hid (gthen KC.out hb8)
        clear hb8
        have q0 := KA.out.c0
        have q1 := KA.out.c1
        have q2 := KA.out.c2
        go_wp2_with fail
        refine (covers_c a d _).mono ?_
        rw [HS2.out]
        rintro e w9 ⟨rfl, hb9⟩
        replace KC := Lib.hid (gthen KC.out hb9)
        clear hb9 q0 q1 q2 d0 d1 d2
        go_wp2_with fail
        go_ret
        exact ⟨rfl, KC.out⟩
      · have hv : (er != 0) = true := by rw [bne_iff_ne]; exact he
        clear he hst
        unfold cv
        go_wp2_with fail
        go_ret
        exact ⟨rfl, KC.out⟩
    · have HR : Hid (covF a b = true) := Lib.hid hr
      clear hr
      cases hs : covF b c
      · have HS : Hid (covF b c = false) := Lib.hid hs
        clear hs
        refine wp_region_gr' (by kernel_rfl) (by kernel_rfl) ?_
        intro ops hop
        apply wpG_det (v := .agg #[.int .i64 a.x, .int .i64 a.y, .int .i64 a.z])
        exact fun _ => by rw [hop.out]; rfl
        · intro us w' hE hH
          have q0 := (KA.out.below hE).c0
          have q1 := (KA.out.below hE).c1
          have q2 := (KA.out.below hE).c2
          go_simp
          exact ⟨Gr.refl _, rfl⟩
        intro us
        go_simp
        exact rfl
        apply wpG_det (v := .agg #[.int .i64 b.x, .int .i64 b.y, .int .i64 b.z])
        exact fun _ => by rw [hop.out]; rfl
        · intro us w' hE hH
          have q0 := (KB.out.below hE).c0
          have q1 := (KB.out.below hE).c1
          have q2 := (KB.out.below hE).c2
          go_simp
          exact ⟨Gr.refl _, rfl⟩
        intro us
        go_simp
        exact rfl
        apply wpG_det (v := Value.bool true)
        exact fun _ => by rw [hop.out]; rfl
        · intro us w' hE hH
          go_simp
          refine (covers_c a b w').mono ?_
          rw [show covF a b = true from HR.out]
          rintro e w'' ⟨rfl, hb⟩
          exact ⟨_, rfl, hb, rfl⟩
        intro us
        go_simp
        exact rfl
        repeat
          apply wpG_det
          exact fun _ => by rw [hop.out]; rfl
          intro us w' hE hH
          go_simp
          exact ⟨Gr.refl _, rfl⟩
          intro us
          go_simp
          exact rfl
        apply wpG_det (v := .agg #[.int .i64 b.x, .int .i64 b.y, .int .i64 b.z])
        exact fun _ => by rw [hop.out]; rfl
        · intro us w' hE hH
          have q0 := (KB.out.below hE).c0
          have q1 := (KB.out.below hE).c1
          have q2 := (KB.out.below hE).c2
          go_simp
          exact ⟨Gr.refl _, rfl⟩
        intro us
        go_simp
        exact rfl
        apply wpG_det (v := .agg #[.int .i64 c.x, .int .i64 c.y, .int .i64 c.z])
        exact fun _ => by rw [hop.out]; rfl
        · intro us w' hE hH
          have q0 := (KK.out.below hE).c0
          have q1 := (KK.out.below hE).c1
          have q2 := (KK.out.below hE).c2
          go_simp
          exact ⟨Gr.refl _, rfl⟩
        intro us
        go_simp
        exact rfl
        apply wpG_det (v := Value.bool false)
        exact fun _ => by rw [hop.out]; rfl
        · intro us w' hE hH
          go_simp
          refine (covers_c b c w').mono ?_
          rw [show covF b c = false from HS.out]
          rintro e w'' ⟨rfl, hb⟩
          exact ⟨_, rfl, hb, rfl⟩
        intro us
        go_simp
        exact rfl
        repeat
          apply wpG_det
          exact fun _ => by rw [hop.out]; rfl
          intro us w' hE hH
          go_simp
          exact ⟨Gr.refl _, rfl⟩
          intro us
          go_simp
          exact rfl
        repeat
          apply wpG_off
          exact fun _ => by rw [hop.out]; rfl
          intro us
          go_simp
          exact rfl
        repeat
          apply wpG_det
          exact fun _ => by rw [hop.out]; rfl
          intro us w' hE hH
          go_simp
          exact ⟨Gr.refl _, rfl⟩
          intro us
          go_simp
          exact rfl
        apply wpG_det (v := .agg #[.int .i64 a.x, .int .i64 a.y, .int .i64 a.z])
        exact fun _ => by rw [hop.out]; rfl
        · intro us w' hE hH
          have q0 := (KA.out.below hE).c0
          have q1 := (KA.out.below hE).c1
          have q2 := (KA.out.below hE).c2
          go_simp
          exact ⟨Gr.refl _, rfl⟩
        intro us
        go_simp
        exact rfl
        apply wpG_det (v := .agg #[.int .i64 b.x, .int .i64 b.y, .int .i64 b.z])
        exact fun _ => by rw [hop.out]; rfl
        · intro us w' hE hH
          have q0 := (KB.out.below hE).c0
          have q1 := (KB.out.below hE).c1
          have q2 := (KB.out.below hE).c2
          go_simp
          exact ⟨Gr.refl _, rfl⟩
        intro us
        go_simp
        exact rfl
        apply wpG_det (v := Value.bool true)
        exact fun _ => by rw [hop.out]; rfl
        · intro us w' hE hH
          go_simp
          refine (covers_c a b w').mono ?_
          rw [show covF a b = true from HR.out]
          rintro e w'' ⟨rfl, hb⟩
          exact ⟨_, rfl, hb, rfl⟩
        intro us
        go_simp
        exact rfl
        repeat
          apply wpG_det
          exact fun _ => by rw [hop.out]; rfl
          intro us w' hE hH
          go_simp
          exact ⟨Gr.refl _, rfl⟩
          intro us
          go_simp
          exact rfl
        apply wpG_det (v := .agg #[.int .i64 b.x, .int .i64 b.y, .int .i64 b.z])
        exact fun _ => by rw [hop.out]; rfl
        · intro us w' hE hH
          have q0 := (KB.out.below hE).c0
          have q1 := (KB.out.below hE).c1
          have q2 := (KB.out.below hE).c2
          go_simp
          exact ⟨Gr.refl _, rfl⟩
        intro us
        go_simp
        exact rfl
        apply wpG_det (v := .agg #[.int .i64 a.x, .int .i64 a.y, .int .i64 a.z])
        exact fun _ => by rw [hop.out]; rfl
        · intro us w' hE hH
          have q0 := (KA.out.below hE).c0
          have q1 := (KA.out.below hE).c1
          have q2 := (KA.out.below hE).c2
          go_simp
          exact ⟨Gr.refl _, rfl⟩
        intro us
        go_simp
        exact rfl
        apply wpG_det (v := Value.bool (decide (a = b)))
        exact fun _ => by rw [hop.out]; rfl
        · intro us w' hE hH
          go_simp
          refine (covers_c b a w').mono ?_
          rw [show covF b a = decide (a = b) from cov_eq HR.out]
          rintro e w'' ⟨rfl, hb⟩
          exact ⟨_, rfl, hb, rfl⟩
        intro us
        go_simp
        exact rfl
        apply wpG_det (v := .agg #[.int .i64 a.x, .int .i64 a.y, .int .i64 a.z])
        exact fun _ => by rw [hop.out]; rfl
        · intro us w' hE hH
          have q0 := (KA.out.below hE).c0
          have q1 := (KA.out.below hE).c1
          have q2 := (KA.out.below hE).c2
          go_simp
          exact ⟨Gr.refl _, rfl⟩
        intro us
        go_simp
        exact rfl
        apply wpG_det (v := .agg #[.int .i64 b.x, .int .i64 b.y, .int .i64 b.z])
        exact fun _ => by rw [hop.out]; rfl
        · intro us w' hE hH
          have q0 := (KB.out.below hE).c0
          have q1 := (KB.out.below hE).c1
          have q2 := (KB.out.below hE).c2
          go_simp
          exact ⟨Gr.refl _, rfl⟩
        intro us
        go_simp
        exact rfl
        apply wpG_det (v := Value.bool (decide (a = b)))
        exact fun _ => by rw [hop.out]; rfl
        · intro us w' hE hH
          have q : ∀ W, (Op.equalIn 10000 54 (.agg #[.int .i64 a.x, .int .i64 a.y, .int .i64 a.z]) (.agg #[.int .i64 b.x, .int .i64 b.y, .int .i64 b.z])).run Try.prog W = .ok (decide (a = b)) W := fun W => eq_clk a b W
          go_simp
          exact ⟨Gr.refl _, rfl⟩
        intro us
        go_simp
        exact rfl
        apply wpG_det (v := Value.bool false)
        exact fun _ => by rw [hop.out]; rfl
        · intro us w' hE hH
          cases decide (a = b) <;> (go_simp; exact ⟨Gr.refl _, rfl⟩)
        intro us
        go_simp
        exact rfl
        repeat
          apply wpG_det
          exact fun _ => by rw [hop.out]; rfl
          intro us w' hE hH
          go_simp
          exact ⟨Gr.refl _, rfl⟩
          intro us
          go_simp
          exact rfl
        intro us w6 hE _
        clear hop
        replace KA := Lib.hid (KA.out.below hE)
        replace KB := Lib.hid (KB.out.below hE)
        replace KK := Lib.hid (KK.out.below hE)
        replace KM := Lib.hid (KM.out.below hE)
        replace KC := Lib.hid (gthen KC.out hE)
        clear hE
        have q0 := KA.out.c0
        have q1 := KA.out.c1
        have q2 := KA.out.c2
        go_wp2_with fail
        clear q0 q1 q2
        refine (step_c a (k % 3) _ (by omega) (by omega)).mono ?_
        have hst := @step_cov a (k % 3)
        unfold pv
        generalize (stepF a (k % 3)).1 = d at *
        generalize (stepF a (k % 3)).2 = er at *
        rintro e w7 ⟨rfl, hb7⟩
        have KD := Lib.hid (Bx.new w7 d)
        have bq := gthen hb7 (galloc w7 (.cells #[.int .i64 d.x, .int .i64 d.y, .int .i64 d.z] 54))
        replace KA := Lib.hid (KA.out.below bq)
        replace KC := Lib.hid (gthen KC.out bq)
        clear bq hb7 KB KK KM
        by_cases he : er = 0
        · obtain ⟨s1, s2⟩ := hst he
          have HS1 := Lib.hid s1
          have HS2 := Lib.hid s2
          subst he
          clear hst s1 s2
          have q0 := KA.out.c0
          have q1 := KA.out.c1
          have q2 := KA.out.c2
          unfold cv
          go_wp2_with fail
          clear q0 q1 q2
          refine (covers_c d a _).mono ?_
          rw [HS1.out]
          rintro e w8 ⟨rfl, hb8⟩
          replace KA := Lib.hid (KA.out.below hb8)
          have d0 := (KD.out.below hb8).c0
          have d1 := (KD.out.below hb8).c1
          have d2 := (KD.out.below hb8).c2
          replace KC := Lib.hid (gthen KC.out hb8)
          clear hb8
          have q0 := KA.out.c0
          have q1 := KA.out.c1
          have q2 := KA.out.c2
          go_wp2_with fail
          refine (covers_c a d _).mono ?_
          rw [HS2.out]
          rintro e w9 ⟨rfl, hb9⟩
          replace KC := Lib.hid (gthen KC.out hb9)
          clear hb9 q0 q1 q2 d0 d1 d2
          go_wp2_with fail
          go_ret
          exact ⟨rfl, KC.out⟩
        · have hv : (er != 0) = true := by rw [bne_iff_ne]; exact he
          clear he hst
          unfold cv
          go_wp2_with fail
          go_ret
          exact ⟨rfl, KC.out⟩
      · have HS : Hid (covF b c = true) := Lib.hid hs
        clear hs
        refine wp_region_gr' (by kernel_rfl) (by kernel_rfl) ?_
        intro ops hop
        apply wpG_det (v := .agg #[.int .i64 a.x, .int .i64 a.y, .int .i64 a.z])
        exact fun _ => by rw [hop.out]; rfl
        · intro us w' hE hH
          have q0 := (KA.out.below hE).c0
          have q1 := (KA.out.below hE).c1
          have q2 := (KA.out.below hE).c2
          go_simp
          exact ⟨Gr.refl _, rfl⟩
        intro us
        go_simp
        exact rfl
        apply wpG_det (v := .agg #[.int .i64 b.x, .int .i64 b.y, .int .i64 b.z])
        exact fun _ => by rw [hop.out]; rfl
        · intro us w' hE hH
          have q0 := (KB.out.below hE).c0
          have q1 := (KB.out.below hE).c1
          have q2 := (KB.out.below hE).c2
          go_simp
          exact ⟨Gr.refl _, rfl⟩
        intro us
        go_simp
        exact rfl
        apply wpG_det (v := Value.bool true)
        exact fun _ => by rw [hop.out]; rfl
        · intro us w' hE hH
          go_simp
          refine (covers_c a b w').mono ?_
          rw [show covF a b = true from HR.out]
          rintro e w'' ⟨rfl, hb⟩
          exact ⟨_, rfl, hb, rfl⟩
        intro us
        go_simp
        exact rfl
        repeat
          apply wpG_det
          exact fun _ => by rw [hop.out]; rfl
          intro us w' hE hH
          go_simp
          exact ⟨Gr.refl _, rfl⟩
          intro us
          go_simp
          exact rfl
        apply wpG_det (v := .agg #[.int .i64 b.x, .int .i64 b.y, .int .i64 b.z])
        exact fun _ => by rw [hop.out]; rfl
        · intro us w' hE hH
          have q0 := (KB.out.below hE).c0
          have q1 := (KB.out.below hE).c1
          have q2 := (KB.out.below hE).c2
          go_simp
          exact ⟨Gr.refl _, rfl⟩
        intro us
        go_simp
        exact rfl
        apply wpG_det (v := .agg #[.int .i64 c.x, .int .i64 c.y, .int .i64 c.z])
        exact fun _ => by rw [hop.out]; rfl
        · intro us w' hE hH
          have q0 := (KK.out.below hE).c0
          have q1 := (KK.out.below hE).c1
          have q2 := (KK.out.below hE).c2
          go_simp
          exact ⟨Gr.refl _, rfl⟩
        intro us
        go_simp
        exact rfl
        apply wpG_det (v := Value.bool true)
        exact fun _ => by rw [hop.out]; rfl
        · intro us w' hE hH
          go_simp
          refine (covers_c b c w').mono ?_
          rw [show covF b c = true from HS.out]
          rintro e w'' ⟨rfl, hb⟩
          exact ⟨_, rfl, hb, rfl⟩
        intro us
        go_simp
        exact rfl
        repeat
          apply wpG_det
          exact fun _ => by rw [hop.out]; rfl
          intro us w' hE hH
          go_simp
          exact ⟨Gr.refl _, rfl⟩
          intro us
          go_simp
          exact rfl
        apply wpG_det (v := .agg #[.int .i64 a.x, .int .i64 a.y, .int .i64 a.z])
        exact fun _ => by rw [hop.out]; rfl
        · intro us w' hE hH
          have q0 := (KA.out.below hE).c0
          have q1 := (KA.out.below hE).c1
          have q2 := (KA.out.below hE).c2
          go_simp
          exact ⟨Gr.refl _, rfl⟩
        intro us
        go_simp
        exact rfl
        apply wpG_det (v := .agg #[.int .i64 c.x, .int .i64 c.y, .int .i64 c.z])
        exact fun _ => by rw [hop.out]; rfl
        · intro us w' hE hH
          have q0 := (KK.out.below hE).c0
          have q1 := (KK.out.below hE).c1
          have q2 := (KK.out.below hE).c2
          go_simp
          exact ⟨Gr.refl _, rfl⟩
        intro us
        go_simp
        exact rfl
        apply wpG_det (v := Value.bool true)
        exact fun _ => by rw [hop.out]; rfl
        · intro us w' hE hH
          go_simp
          refine (covers_c a c w').mono ?_
          rw [show covF a c = true from cov_trans HR.out HS.out]
          rintro e w'' ⟨rfl, hb⟩
          exact ⟨_, rfl, hb, rfl⟩
        intro us
        go_simp
        exact rfl
        repeat
          apply wpG_det
          exact fun _ => by rw [hop.out]; rfl
          intro us w' hE hH
          go_simp
          exact ⟨Gr.refl _, rfl⟩
          intro us
          go_simp
          exact rfl
        apply wpG_det (v := .agg #[.int .i64 a.x, .int .i64 a.y, .int .i64 a.z])
        exact fun _ => by rw [hop.out]; rfl
        · intro us w' hE hH
          have q0 := (KA.out.below hE).c0
          have q1 := (KA.out.below hE).c1
          have q2 := (KA.out.below hE).c2
          go_simp
          exact ⟨Gr.refl _, rfl⟩
        intro us
        go_simp
        exact rfl
        apply wpG_det (v := .agg #[.int .i64 b.x, .int .i64 b.y, .int .i64 b.z])
        exact fun _ => by rw [hop.out]; rfl
        · intro us w' hE hH
          have q0 := (KB.out.below hE).c0
          have q1 := (KB.out.below hE).c1
          have q2 := (KB.out.below hE).c2
          go_simp
          exact ⟨Gr.refl _, rfl⟩
        intro us
        go_simp
        exact rfl
        apply wpG_det (v := Value.bool true)
        exact fun _ => by rw [hop.out]; rfl
        · intro us w' hE hH
          go_simp
          refine (covers_c a b w').mono ?_
          rw [show covF a b = true from HR.out]
          rintro e w'' ⟨rfl, hb⟩
          exact ⟨_, rfl, hb, rfl⟩
        intro us
        go_simp
        exact rfl
        repeat
          apply wpG_det
          exact fun _ => by rw [hop.out]; rfl
          intro us w' hE hH
          go_simp
          exact ⟨Gr.refl _, rfl⟩
          intro us
          go_simp
          exact rfl
        apply wpG_det (v := .agg #[.int .i64 b.x, .int .i64 b.y, .int .i64 b.z])
        exact fun _ => by rw [hop.out]; rfl
        · intro us w' hE hH
          have q0 := (KB.out.below hE).c0
          have q1 := (KB.out.below hE).c1
          have q2 := (KB.out.below hE).c2
          go_simp
          exact ⟨Gr.refl _, rfl⟩
        intro us
        go_simp
        exact rfl
        apply wpG_det (v := .agg #[.int .i64 a.x, .int .i64 a.y, .int .i64 a.z])
        exact fun _ => by rw [hop.out]; rfl
        · intro us w' hE hH
          have q0 := (KA.out.below hE).c0
          have q1 := (KA.out.below hE).c1
          have q2 := (KA.out.below hE).c2
          go_simp
          exact ⟨Gr.refl _, rfl⟩
        intro us
        go_simp
        exact rfl
        apply wpG_det (v := Value.bool (decide (a = b)))
        exact fun _ => by rw [hop.out]; rfl
        · intro us w' hE hH
          go_simp
          refine (covers_c b a w').mono ?_
          rw [show covF b a = decide (a = b) from cov_eq HR.out]
          rintro e w'' ⟨rfl, hb⟩
          exact ⟨_, rfl, hb, rfl⟩
        intro us
        go_simp
        exact rfl
        apply wpG_det (v := .agg #[.int .i64 a.x, .int .i64 a.y, .int .i64 a.z])
        exact fun _ => by rw [hop.out]; rfl
        · intro us w' hE hH
          have q0 := (KA.out.below hE).c0
          have q1 := (KA.out.below hE).c1
          have q2 := (KA.out.below hE).c2
          go_simp
          exact ⟨Gr.refl _, rfl⟩
        intro us
        go_simp
        exact rfl
        apply wpG_det (v := .agg #[.int .i64 b.x, .int .i64 b.y, .int .i64 b.z])
        exact fun _ => by rw [hop.out]; rfl
        · intro us w' hE hH
          have q0 := (KB.out.below hE).c0
          have q1 := (KB.out.below hE).c1
          have q2 := (KB.out.below hE).c2
          go_simp
          exact ⟨Gr.refl _, rfl⟩
        intro us
        go_simp
        exact rfl
        apply wpG_det (v := Value.bool (decide (a = b)))
        exact fun _ => by rw [hop.out]; rfl
        · intro us w' hE hH
          have q : ∀ W, (Op.equalIn 10000 54 (.agg #[.int .i64 a.x, .int .i64 a.y, .int .i64 a.z]) (.agg #[.int .i64 b.x, .int .i64 b.y, .int .i64 b.z])).run Try.prog W = .ok (decide (a = b)) W := fun W => eq_clk a b W
          go_simp
          exact ⟨Gr.refl _, rfl⟩
        intro us
        go_simp
        exact rfl
        apply wpG_det (v := Value.bool false)
        exact fun _ => by rw [hop.out]; rfl
        · intro us w' hE hH
          cases decide (a = b) <;> (go_simp; exact ⟨Gr.refl _, rfl⟩)
        intro us
        go_simp
        exact rfl
        repeat
          apply wpG_det
          exact fun _ => by rw [hop.out]; rfl
          intro us w' hE hH
          go_simp
          exact ⟨Gr.refl _, rfl⟩
          intro us
          go_simp
          exact rfl
        intro us w6 hE _
        clear hop
        replace KA := Lib.hid (KA.out.below hE)
        replace KB := Lib.hid (KB.out.below hE)
        replace KK := Lib.hid (KK.out.below hE)
        replace KM := Lib.hid (KM.out.below hE)
        replace KC := Lib.hid (gthen KC.out hE)
        clear hE
        have q0 := KA.out.c0
        have q1 := KA.out.c1
        have q2 := KA.out.c2
        go_wp2_with fail
        clear q0 q1 q2
        refine (step_c a (k % 3) _ (by omega) (by omega)).mono ?_
        have hst := @step_cov a (k % 3)
        unfold pv
        generalize (stepF a (k % 3)).1 = d at *
        generalize (stepF a (k % 3)).2 = er at *
        rintro e w7 ⟨rfl, hb7⟩
        have KD := Lib.hid (Bx.new w7 d)
        have bq := gthen hb7 (galloc w7 (.cells #[.int .i64 d.x, .int .i64 d.y, .int .i64 d.z] 54))
        replace KA := Lib.hid (KA.out.below bq)
        replace KC := Lib.hid (gthen KC.out bq)
        clear bq hb7 KB KK KM
        by_cases he : er = 0
        · obtain ⟨s1, s2⟩ := hst he
          have HS1 := Lib.hid s1
          have HS2 := Lib.hid s2
          subst he
          clear hst s1 s2
          have q0 := KA.out.c0
          have q1 := KA.out.c1
          have q2 := KA.out.c2
          unfold cv
          go_wp2_with fail
          clear q0 q1 q2
          refine (covers_c d a _).mono ?_
          rw [HS1.out]
          rintro e w8 ⟨rfl, hb8⟩
          replace KA := Lib.hid (KA.out.below hb8)
          have d0 := (KD.out.below hb8).c0
          have d1 := (KD.out.below hb8).c1
          have d2 := (KD.out.below hb8).c2
          replace KC := Lib.hid (gthen KC.out hb8)
          clear hb8
          have q0 := KA.out.c0
          have q1 := KA.out.c1
          have q2 := KA.out.c2
          go_wp2_with fail
          refine (covers_c a d _).mono ?_
          rw [HS2.out]
          rintro e w9 ⟨rfl, hb9⟩
          replace KC := Lib.hid (gthen KC.out hb9)
          clear hb9 q0 q1 q2 d0 d1 d2
          go_wp2_with fail
          go_ret
          exact ⟨rfl, KC.out⟩
        · have hv : (er != 0) = true := by rw [bne_iff_ne]; exact he
          clear he hst
          unfold cv
          go_wp2_with fail
          go_ret
          exact ⟨rfl, KC.out⟩
  · have HP : Hid (covF c a = true) := Lib.hid hp
    clear hp
    refine wp_region_gr' (by kernel_rfl) (by kernel_rfl) ?_
    intro ops hop
    apply wpG_det (v := .agg #[.int .i64 c.x, .int .i64 c.y, .int .i64 c.z])
    exact fun _ => by rw [hop.out]; rfl
    · intro us w' hE hH
      have q0 := (KK.out.below hE).c0
      have q1 := (KK.out.below hE).c1
      have q2 := (KK.out.below hE).c2
      go_simp
      exact ⟨Gr.refl _, rfl⟩
    intro us
    go_simp
    exact rfl
    apply wpG_det (v := .agg #[.int .i64 a.x, .int .i64 a.y, .int .i64 a.z])
    exact fun _ => by rw [hop.out]; rfl
    · intro us w' hE hH
      have q0 := (KA.out.below hE).c0
      have q1 := (KA.out.below hE).c1
      have q2 := (KA.out.below hE).c2
      go_simp
      exact ⟨Gr.refl _, rfl⟩
    intro us
    go_simp
    exact rfl
    apply wpG_det (v := Value.bool true)
    exact fun _ => by rw [hop.out]; rfl
    · intro us w' hE hH
      go_simp
      refine (covers_c c a w').mono ?_
      rw [show covF c a = true from HP.out]
      rintro e w'' ⟨rfl, hb⟩
      exact ⟨_, rfl, hb, rfl⟩
    intro us
    go_simp
    exact rfl
    repeat
      apply wpG_det
      exact fun _ => by rw [hop.out]; rfl
      intro us w' hE hH
      go_simp
      exact ⟨Gr.refl _, rfl⟩
      intro us
      go_simp
      exact rfl
    apply wpG_det (v := .agg #[.int .i64 c.x, .int .i64 c.y, .int .i64 c.z])
    exact fun _ => by rw [hop.out]; rfl
    · intro us w' hE hH
      have q0 := (KK.out.below hE).c0
      have q1 := (KK.out.below hE).c1
      have q2 := (KK.out.below hE).c2
      go_simp
      exact ⟨Gr.refl _, rfl⟩
    intro us
    go_simp
    exact rfl
    apply wpG_det (v := .agg #[.int .i64 b.x, .int .i64 b.y, .int .i64 b.z])
    exact fun _ => by rw [hop.out]; rfl
    · intro us w' hE hH
      have q0 := (KB.out.below hE).c0
      have q1 := (KB.out.below hE).c1
      have q2 := (KB.out.below hE).c2
      go_simp
      exact ⟨Gr.refl _, rfl⟩
    intro us
    go_simp
    exact rfl
    apply wpG_det (v := Value.bool (covF c b))
    exact fun _ => by rw [hop.out]; rfl
    · intro us w' hE hH
      go_simp
      refine (covers_c c b w').mono ?_
      rintro e w'' ⟨rfl, hb⟩
      exact ⟨_, rfl, hb, rfl⟩
    intro us
    go_simp
    exact rfl
    apply wpG_det (v := .agg #[.int .i64 c.x, .int .i64 c.y, .int .i64 c.z])
    exact fun _ => by rw [hop.out]; rfl
    · intro us w' hE hH
      have q0 := (KK.out.below hE).c0
      have q1 := (KK.out.below hE).c1
      have q2 := (KK.out.below hE).c2
      go_simp
      exact ⟨Gr.refl _, rfl⟩
    intro us
    go_simp
    exact rfl
    apply wpG_det (v := .agg #[.int .i64 M.x, .int .i64 M.y, .int .i64 M.z])
    exact fun _ => by rw [hop.out]; rfl
    · intro us w' hE hH
      have q0 := (KM.out.below hE).c0
      have q1 := (KM.out.below hE).c1
      have q2 := (KM.out.below hE).c2
      go_simp
      exact ⟨Gr.refl _, rfl⟩
    intro us
    go_simp
    exact rfl
    apply wpG_det (v := Value.bool (covF c b))
    exact fun _ => by rw [hop.out]; rfl
    · intro us w' hE hH
      go_simp
      refine (covers_c c M w').mono ?_
      rw [show covF c M = covF c b from by rw [cov_of_merge a b c HP.out, HM.out]]
      rintro e w'' ⟨rfl, hb⟩
      exact ⟨_, rfl, hb, rfl⟩
    intro us
    go_simp
    exact rfl
    apply wpG_det (v := Value.bool false)
    exact fun _ => by rw [hop.out]; rfl
    · intro us w' hE hH
      cases covF c b <;> (go_simp; exact ⟨Gr.refl _, rfl⟩)
    intro us
    go_simp
    exact rfl
    repeat
      apply wpG_det
      exact fun _ => by rw [hop.out]; rfl
      intro us w' hE hH
      go_simp
      exact ⟨Gr.refl _, rfl⟩
      intro us
      go_simp
      exact rfl
    intro us w5 hE _
    clear hop
    replace KA := Lib.hid (KA.out.below hE)
    replace KB := Lib.hid (KB.out.below hE)
    replace KK := Lib.hid (KK.out.below hE)
    replace KM := Lib.hid (KM.out.below hE)
    replace KC := Lib.hid (gthen KC.out hE)
    clear hE
    go_wp2_with fail
    cases hr : covF a b
    · have HR : Hid (covF a b = false) := Lib.hid hr
      clear hr
      refine wp_region_gr' (by kernel_rfl) (by kernel_rfl) ?_
      intro ops hop
      apply wpG_det (v := .agg #[.int .i64 a.x, .int .i64 a.y, .int .i64 a.z])
      exact fun _ => by rw [hop.out]; rfl
      · intro us w' hE hH
        have q0 := (KA.out.below hE).c0
        have q1 := (KA.out.below hE).c1
        have q2 := (KA.out.below hE).c2
        go_simp
        exact ⟨Gr.refl _, rfl⟩
      intro us
      go_simp
      exact rfl
      apply wpG_det (v := .agg #[.int .i64 b.x, .int .i64 b.y, .int .i64 b.z])
      exact fun _ => by rw [hop.out]; rfl
      · intro us w' hE hH
        have q0 := (KB.out.below hE).c0
        have q1 := (KB.out.below hE).c1
        have q2 := (KB.out.below hE).c2
        go_simp
        exact ⟨Gr.refl _, rfl⟩
      intro us
      go_simp
      exact rfl
      apply wpG_det (v := Value.bool false)
      exact fun _ => by rw [hop.out]; rfl
      · intro us w' hE hH
        go_simp
        refine (covers_c a b w').mono ?_
        rw [show covF a b = false from HR.out]
        rintro e w'' ⟨rfl, hb⟩
        exact ⟨_, rfl, hb, rfl⟩
      intro us
      go_simp
      exact rfl
      repeat
        apply wpG_det
        exact fun _ => by rw [hop.out]; rfl
        intro us w' hE hH
        go_simp
        exact ⟨Gr.refl _, rfl⟩
        intro us
        go_simp
        exact rfl
      repeat
        apply wpG_off
        exact fun _ => by rw [hop.out]; rfl
        intro us
        go_simp
        exact rfl
      repeat
        apply wpG_det
        exact fun _ => by rw [hop.out]; rfl
        intro us w' hE hH
        go_simp
        exact ⟨Gr.refl _, rfl⟩
        intro us
        go_simp
        exact rfl
      repeat
        apply wpG_off
        exact fun _ => by rw [hop.out]; rfl
        intro us
        go_simp
        exact rfl
      repeat
        apply wpG_det
        exact fun _ => by rw [hop.out]; rfl
        intro us w' hE hH
        go_simp
        exact ⟨Gr.refl _, rfl⟩
        intro us
        go_simp
        exact rfl
      apply wpG_det (v := .agg #[.int .i64 a.x, .int .i64 a.y, .int .i64 a.z])
      exact fun _ => by rw [hop.out]; rfl
      · intro us w' hE hH
        have q0 := (KA.out.below hE).c0
        have q1 := (KA.out.below hE).c1
        have q2 := (KA.out.below hE).c2
        go_simp
        exact ⟨Gr.refl _, rfl⟩
      intro us
      go_simp
      exact rfl
      apply wpG_det (v := .agg #[.int .i64 b.x, .int .i64 b.y, .int .i64 b.z])
      exact fun _ => by rw [hop.out]; rfl
      · intro us w' hE hH
        have q0 := (KB.out.below hE).c0
        have q1 := (KB.out.below hE).c1
        have q2 := (KB.out.below hE).c2
        go_simp
        exact ⟨Gr.refl _, rfl⟩
      intro us
      go_simp
      exact rfl
      apply wpG_det (v := Value.bool false)
      exact fun _ => by rw [hop.out]; rfl
      · intro us w' hE hH
        go_simp
        refine (covers_c a b w').mono ?_
        rw [show covF a b = false from HR.out]
        rintro e w'' ⟨rfl, hb⟩
        exact ⟨_, rfl, hb, rfl⟩
      intro us
      go_simp
      exact rfl
      repeat
        apply wpG_det
        exact fun _ => by rw [hop.out]; rfl
        intro us w' hE hH
        go_simp
        exact ⟨Gr.refl _, rfl⟩
        intro us
        go_simp
        exact rfl
      repeat
        apply wpG_off
        exact fun _ => by rw [hop.out]; rfl
        intro us
        go_simp
        exact rfl
      repeat
        apply wpG_det
        exact fun _ => by rw [hop.out]; rfl
        intro us w' hE hH
        go_simp
        exact ⟨Gr.refl _, rfl⟩
        intro us
        go_simp
        exact rfl
      intro us w6 hE _
      clear hop
      replace KA := Lib.hid (KA.out.below hE)
      replace KB := Lib.hid (KB.out.below hE)
      replace KK := Lib.hid (KK.out.below hE)
      replace KM := Lib.hid (KM.out.below hE)
      replace KC := Lib.hid (gthen KC.out hE)
      clear hE
      have q0 := KA.out.c0
      have q1 := KA.out.c1
      have q2 := KA.out.c2
      go_wp2_with fail
      clear q0 q1 q2
      refine (step_c a (k % 3) _ (by omega) (by omega)).mono ?_
      have hst := @step_cov a (k % 3)
      unfold pv
      generalize (stepF a (k % 3)).1 = d at *
      generalize (stepF a (k % 3)).2 = er at *
      rintro e w7 ⟨rfl, hb7⟩
      have KD := Lib.hid (Bx.new w7 d)
      have bq := gthen hb7 (galloc w7 (.cells #[.int .i64 d.x, .int .i64 d.y, .int .i64 d.z] 54))
      replace KA := Lib.hid (KA.out.below bq)
      replace KC := Lib.hid (gthen KC.out bq)
      clear bq hb7 KB KK KM
      by_cases he : er = 0
      · obtain ⟨s1, s2⟩ := hst he
        have HS1 := Lib.hid s1
        have HS2 := Lib.hid s2
        subst he
        clear hst s1 s2
        have q0 := KA.out.c0
        have q1 := KA.out.c1
        have q2 := KA.out.c2
        unfold cv
        go_wp2_with fail
        clear q0 q1 q2
        refine (covers_c d a _).mono ?_
        rw [HS1.out]
        rintro e w8 ⟨rfl, hb8⟩
        replace KA := Lib.hid (KA.out.below hb8)
        have d0 := (KD.out.below hb8).c0
        have d1 := (KD.out.below hb8).c1
        have d2 := (KD.out.below hb8).c2
        replace KC := Lib.hid (gthen KC.out hb8)
        clear hb8
        have q0 := KA.out.c0
        have q1 := KA.out.c1
        have q2 := KA.out.c2
        go_wp2_with fail
        refine (covers_c a d _).mono ?_
        rw [HS2.out]
        rintro e w9 ⟨rfl, hb9⟩
        replace KC := Lib.hid (gthen KC.out hb9)
        clear hb9 q0 q1 q2 d0 d1 d2
        go_wp2_with fail
        go_ret
        exact ⟨rfl, KC.out⟩
      · have hv : (er != 0) = true := by rw [bne_iff_ne]; exact he
        clear he hst
        unfold cv
        go_wp2_with fail
        go_ret
        exact ⟨rfl, KC.out⟩
    · have HR : Hid (covF a b = true) := Lib.hid hr
      clear hr
      cases hs : covF b c
      · have HS : Hid (covF b c = false) := Lib.hid hs
        clear hs
        refine wp_region_gr' (by kernel_rfl) (by kernel_rfl) ?_
        intro ops hop
        apply wpG_det (v := .agg #[.int .i64 a.x, .int .i64 a.y, .int .i64 a.z])
        exact fun _ => by rw [hop.out]; rfl
        · intro us w' hE hH
          have q0 := (KA.out.below hE).c0
          have q1 := (KA.out.below hE).c1
          have q2 := (KA.out.below hE).c2
          go_simp
          exact ⟨Gr.refl _, rfl⟩
        intro us
        go_simp
        exact rfl
        apply wpG_det (v := .agg #[.int .i64 b.x, .int .i64 b.y, .int .i64 b.z])
        exact fun _ => by rw [hop.out]; rfl
        · intro us w' hE hH
          have q0 := (KB.out.below hE).c0
          have q1 := (KB.out.below hE).c1
          have q2 := (KB.out.below hE).c2
          go_simp
          exact ⟨Gr.refl _, rfl⟩
        intro us
        go_simp
        exact rfl
        apply wpG_det (v := Value.bool true)
        exact fun _ => by rw [hop.out]; rfl
        · intro us w' hE hH
          go_simp
          refine (covers_c a b w').mono ?_
          rw [show covF a b = true from HR.out]
          rintro e w'' ⟨rfl, hb⟩
          exact ⟨_, rfl, hb, rfl⟩
        intro us
        go_simp
        exact rfl
        repeat
          apply wpG_det
          exact fun _ => by rw [hop.out]; rfl
          intro us w' hE hH
          go_simp
          exact ⟨Gr.refl _, rfl⟩
          intro us
          go_simp
          exact rfl
        apply wpG_det (v := .agg #[.int .i64 b.x, .int .i64 b.y, .int .i64 b.z])
        exact fun _ => by rw [hop.out]; rfl
        · intro us w' hE hH
          have q0 := (KB.out.below hE).c0
          have q1 := (KB.out.below hE).c1
          have q2 := (KB.out.below hE).c2
          go_simp
          exact ⟨Gr.refl _, rfl⟩
        intro us
        go_simp
        exact rfl
        apply wpG_det (v := .agg #[.int .i64 c.x, .int .i64 c.y, .int .i64 c.z])
        exact fun _ => by rw [hop.out]; rfl
        · intro us w' hE hH
          have q0 := (KK.out.below hE).c0
          have q1 := (KK.out.below hE).c1
          have q2 := (KK.out.below hE).c2
          go_simp
          exact ⟨Gr.refl _, rfl⟩
        intro us
        go_simp
        exact rfl
        apply wpG_det (v := Value.bool false)
        exact fun _ => by rw [hop.out]; rfl
        · intro us w' hE hH
          go_simp
          refine (covers_c b c w').mono ?_
          rw [show covF b c = false from HS.out]
          rintro e w'' ⟨rfl, hb⟩
          exact ⟨_, rfl, hb, rfl⟩
        intro us
        go_simp
        exact rfl
        repeat
          apply wpG_det
          exact fun _ => by rw [hop.out]; rfl
          intro us w' hE hH
          go_simp
          exact ⟨Gr.refl _, rfl⟩
          intro us
          go_simp
          exact rfl
        repeat
          apply wpG_off
          exact fun _ => by rw [hop.out]; rfl
          intro us
          go_simp
          exact rfl
        repeat
          apply wpG_det
          exact fun _ => by rw [hop.out]; rfl
          intro us w' hE hH
          go_simp
          exact ⟨Gr.refl _, rfl⟩
          intro us
          go_simp
          exact rfl
        apply wpG_det (v := .agg #[.int .i64 a.x, .int .i64 a.y, .int .i64 a.z])
        exact fun _ => by rw [hop.out]; rfl
        · intro us w' hE hH
          have q0 := (KA.out.below hE).c0
          have q1 := (KA.out.below hE).c1
          have q2 := (KA.out.below hE).c2
          go_simp
          exact ⟨Gr.refl _, rfl⟩
        intro us
        go_simp
        exact rfl
        apply wpG_det (v := .agg #[.int .i64 b.x, .int .i64 b.y, .int .i64 b.z])
        exact fun _ => by rw [hop.out]; rfl
        · intro us w' hE hH
          have q0 := (KB.out.below hE).c0
          have q1 := (KB.out.below hE).c1
          have q2 := (KB.out.below hE).c2
          go_simp
          exact ⟨Gr.refl _, rfl⟩
        intro us
        go_simp
        exact rfl
        apply wpG_det (v := Value.bool true)
        exact fun _ => by rw [hop.out]; rfl
        · intro us w' hE hH
          go_simp
          refine (covers_c a b w').mono ?_
          rw [show covF a b = true from HR.out]
          rintro e w'' ⟨rfl, hb⟩
          exact ⟨_, rfl, hb, rfl⟩
        intro us
        go_simp
        exact rfl
        repeat
          apply wpG_det
          exact fun _ => by rw [hop.out]; rfl
          intro us w' hE hH
          go_simp
          exact ⟨Gr.refl _, rfl⟩
          intro us
          go_simp
          exact rfl
        apply wpG_det (v := .agg #[.int .i64 b.x, .int .i64 b.y, .int .i64 b.z])
        exact fun _ => by rw [hop.out]; rfl
        · intro us w' hE hH
          have q0 := (KB.out.below hE).c0
          have q1 := (KB.out.below hE).c1
          have q2 := (KB.out.below hE).c2
          go_simp
          exact ⟨Gr.refl _, rfl⟩
        intro us
        go_simp
        exact rfl
        apply wpG_det (v := .agg #[.int .i64 a.x, .int .i64 a.y, .int .i64 a.z])
        exact fun _ => by rw [hop.out]; rfl
        · intro us w' hE hH
          have q0 := (KA.out.below hE).c0
          have q1 := (KA.out.below hE).c1
          have q2 := (KA.out.below hE).c2
          go_simp
          exact ⟨Gr.refl _, rfl⟩
        intro us
        go_simp
        exact rfl
        apply wpG_det (v := Value.bool (decide (a = b)))
        exact fun _ => by rw [hop.out]; rfl
        · intro us w' hE hH
          go_simp
          refine (covers_c b a w').mono ?_
          rw [show covF b a = decide (a = b) from cov_eq HR.out]
          rintro e w'' ⟨rfl, hb⟩
          exact ⟨_, rfl, hb, rfl⟩
        intro us
        go_simp
        exact rfl
        apply wpG_det (v := .agg #[.int .i64 a.x, .int .i64 a.y, .int .i64 a.z])
        exact fun _ => by rw [hop.out]; rfl
        · intro us w' hE hH
          have q0 := (KA.out.below hE).c0
          have q1 := (KA.out.below hE).c1
          have q2 := (KA.out.below hE).c2
          go_simp
          exact ⟨Gr.refl _, rfl⟩
        intro us
        go_simp
        exact rfl
        apply wpG_det (v := .agg #[.int .i64 b.x, .int .i64 b.y, .int .i64 b.z])
        exact fun _ => by rw [hop.out]; rfl
        · intro us w' hE hH
          have q0 := (KB.out.below hE).c0
          have q1 := (KB.out.below hE).c1
          have q2 := (KB.out.below hE).c2
          go_simp
          exact ⟨Gr.refl _, rfl⟩
        intro us
        go_simp
        exact rfl
        apply wpG_det (v := Value.bool (decide (a = b)))
        exact fun _ => by rw [hop.out]; rfl
        · intro us w' hE hH
          have q : ∀ W, (Op.equalIn 10000 54 (.agg #[.int .i64 a.x, .int .i64 a.y, .int .i64 a.z]) (.agg #[.int .i64 b.x, .int .i64 b.y, .int .i64 b.z])).run Try.prog W = .ok (decide (a = b)) W := fun W => eq_clk a b W
          go_simp
          exact ⟨Gr.refl _, rfl⟩
        intro us
        go_simp
        exact rfl
        apply wpG_det (v := Value.bool false)
        exact fun _ => by rw [hop.out]; rfl
        · intro us w' hE hH
          cases decide (a = b) <;> (go_simp; exact ⟨Gr.refl _, rfl⟩)
        intro us
        go_simp
        exact rfl
        repeat
          apply wpG_det
          exact fun _ => by rw [hop.out]; rfl
          intro us w' hE hH
          go_simp
          exact ⟨Gr.refl _, rfl⟩
          intro us
          go_simp
          exact rfl
        intro us w6 hE _
        clear hop
        replace KA := Lib.hid (KA.out.below hE)
        replace KB := Lib.hid (KB.out.below hE)
        replace KK := Lib.hid (KK.out.below hE)
        replace KM := Lib.hid (KM.out.below hE)
        replace KC := Lib.hid (gthen KC.out hE)
        clear hE
        have q0 := KA.out.c0
        have q1 := KA.out.c1
        have q2 := KA.out.c2
        go_wp2_with fail
        clear q0 q1 q2
        refine (step_c a (k % 3) _ (by omega) (by omega)).mono ?_
        have hst := @step_cov a (k % 3)
        unfold pv
        generalize (stepF a (k % 3)).1 = d at *
        generalize (stepF a (k % 3)).2 = er at *
        rintro e w7 ⟨rfl, hb7⟩
        have KD := Lib.hid (Bx.new w7 d)
        have bq := gthen hb7 (galloc w7 (.cells #[.int .i64 d.x, .int .i64 d.y, .int .i64 d.z] 54))
        replace KA := Lib.hid (KA.out.below bq)
        replace KC := Lib.hid (gthen KC.out bq)
        clear bq hb7 KB KK KM
        by_cases he : er = 0
        · obtain ⟨s1, s2⟩ := hst he
          have HS1 := Lib.hid s1
          have HS2 := Lib.hid s2
          subst he
          clear hst s1 s2
          have q0 := KA.out.c0
          have q1 := KA.out.c1
          have q2 := KA.out.c2
          unfold cv
          go_wp2_with fail
          clear q0 q1 q2
          refine (covers_c d a _).mono ?_
          rw [HS1.out]
          rintro e w8 ⟨rfl, hb8⟩
          replace KA := Lib.hid (KA.out.below hb8)
          have d0 := (KD.out.below hb8).c0
          have d1 := (KD.out.below hb8).c1
          have d2 := (KD.out.below hb8).c2
          replace KC := Lib.hid (gthen KC.out hb8)
          clear hb8
          have q0 := KA.out.c0
          have q1 := KA.out.c1
          have q2 := KA.out.c2
          go_wp2_with fail
          refine (covers_c a d _).mono ?_
          rw [HS2.out]
          rintro e w9 ⟨rfl, hb9⟩
          replace KC := Lib.hid (gthen KC.out hb9)
          clear hb9 q0 q1 q2 d0 d1 d2
          go_wp2_with fail
          go_ret
          exact ⟨rfl, KC.out⟩
        · have hv : (er != 0) = true := by rw [bne_iff_ne]; exact he
          clear he hst
          unfold cv
          go_wp2_with fail
          go_ret
          exact ⟨rfl, KC.out⟩
      · have HS : Hid (covF b c = true) := Lib.hid hs
        clear hs
        refine wp_region_gr' (by kernel_rfl) (by kernel_rfl) ?_
        intro ops hop
        apply wpG_det (v := .agg #[.int .i64 a.x, .int .i64 a.y, .int .i64 a.z])
        exact fun _ => by rw [hop.out]; rfl
        · intro us w' hE hH
          have q0 := (KA.out.below hE).c0
          have q1 := (KA.out.below hE).c1
          have q2 := (KA.out.below hE).c2
          go_simp
          exact ⟨Gr.refl _, rfl⟩
        intro us
        go_simp
        exact rfl
        apply wpG_det (v := .agg #[.int .i64 b.x, .int .i64 b.y, .int .i64 b.z])
        exact fun _ => by rw [hop.out]; rfl
        · intro us w' hE hH
          have q0 := (KB.out.below hE).c0
          have q1 := (KB.out.below hE).c1
          have q2 := (KB.out.below hE).c2
          go_simp
          exact ⟨Gr.refl _, rfl⟩
        intro us
        go_simp
        exact rfl
        apply wpG_det (v := Value.bool true)
        exact fun _ => by rw [hop.out]; rfl
        · intro us w' hE hH
          go_simp
          refine (covers_c a b w').mono ?_
          rw [show covF a b = true from HR.out]
          rintro e w'' ⟨rfl, hb⟩
          exact ⟨_, rfl, hb, rfl⟩
        intro us
        go_simp
        exact rfl
        repeat
          apply wpG_det
          exact fun _ => by rw [hop.out]; rfl
          intro us w' hE hH
          go_simp
          exact ⟨Gr.refl _, rfl⟩
          intro us
          go_simp
          exact rfl
        apply wpG_det (v := .agg #[.int .i64 b.x, .int .i64 b.y, .int .i64 b.z])
        exact fun _ => by rw [hop.out]; rfl
        · intro us w' hE hH
          have q0 := (KB.out.below hE).c0
          have q1 := (KB.out.below hE).c1
          have q2 := (KB.out.below hE).c2
          go_simp
          exact ⟨Gr.refl _, rfl⟩
        intro us
        go_simp
        exact rfl
        apply wpG_det (v := .agg #[.int .i64 c.x, .int .i64 c.y, .int .i64 c.z])
        exact fun _ => by rw [hop.out]; rfl
        · intro us w' hE hH
          have q0 := (KK.out.below hE).c0
          have q1 := (KK.out.below hE).c1
          have q2 := (KK.out.below hE).c2
          go_simp
          exact ⟨Gr.refl _, rfl⟩
        intro us
        go_simp
        exact rfl
        apply wpG_det (v := Value.bool true)
        exact fun _ => by rw [hop.out]; rfl
        · intro us w' hE hH
          go_simp
          refine (covers_c b c w').mono ?_
          rw [show covF b c = true from HS.out]
          rintro e w'' ⟨rfl, hb⟩
          exact ⟨_, rfl, hb, rfl⟩
        intro us
        go_simp
        exact rfl
        repeat
          apply wpG_det
          exact fun _ => by rw [hop.out]; rfl
          intro us w' hE hH
          go_simp
          exact ⟨Gr.refl _, rfl⟩
          intro us
          go_simp
          exact rfl
        apply wpG_det (v := .agg #[.int .i64 a.x, .int .i64 a.y, .int .i64 a.z])
        exact fun _ => by rw [hop.out]; rfl
        · intro us w' hE hH
          have q0 := (KA.out.below hE).c0
          have q1 := (KA.out.below hE).c1
          have q2 := (KA.out.below hE).c2
          go_simp
          exact ⟨Gr.refl _, rfl⟩
        intro us
        go_simp
        exact rfl
        apply wpG_det (v := .agg #[.int .i64 c.x, .int .i64 c.y, .int .i64 c.z])
        exact fun _ => by rw [hop.out]; rfl
        · intro us w' hE hH
          have q0 := (KK.out.below hE).c0
          have q1 := (KK.out.below hE).c1
          have q2 := (KK.out.below hE).c2
          go_simp
          exact ⟨Gr.refl _, rfl⟩
        intro us
        go_simp
        exact rfl
        apply wpG_det (v := Value.bool true)
        exact fun _ => by rw [hop.out]; rfl
        · intro us w' hE hH
          go_simp
          refine (covers_c a c w').mono ?_
          rw [show covF a c = true from cov_trans HR.out HS.out]
          rintro e w'' ⟨rfl, hb⟩
          exact ⟨_, rfl, hb, rfl⟩
        intro us
        go_simp
        exact rfl
        repeat
          apply wpG_det
          exact fun _ => by rw [hop.out]; rfl
          intro us w' hE hH
          go_simp
          exact ⟨Gr.refl _, rfl⟩
          intro us
          go_simp
          exact rfl
        apply wpG_det (v := .agg #[.int .i64 a.x, .int .i64 a.y, .int .i64 a.z])
        exact fun _ => by rw [hop.out]; rfl
        · intro us w' hE hH
          have q0 := (KA.out.below hE).c0
          have q1 := (KA.out.below hE).c1
          have q2 := (KA.out.below hE).c2
          go_simp
          exact ⟨Gr.refl _, rfl⟩
        intro us
        go_simp
        exact rfl
        apply wpG_det (v := .agg #[.int .i64 b.x, .int .i64 b.y, .int .i64 b.z])
        exact fun _ => by rw [hop.out]; rfl
        · intro us w' hE hH
          have q0 := (KB.out.below hE).c0
          have q1 := (KB.out.below hE).c1
          have q2 := (KB.out.below hE).c2
          go_simp
          exact ⟨Gr.refl _, rfl⟩
        intro us
        go_simp
        exact rfl
        apply wpG_det (v := Value.bool true)
        exact fun _ => by rw [hop.out]; rfl
        · intro us w' hE hH
          go_simp
          refine (covers_c a b w').mono ?_
          rw [show covF a b = true from HR.out]
          rintro e w'' ⟨rfl, hb⟩
          exact ⟨_, rfl, hb, rfl⟩
        intro us
        go_simp
        exact rfl
        repeat
          apply wpG_det
          exact fun _ => by rw [hop.out]; rfl
          intro us w' hE hH
          go_simp
          exact ⟨Gr.refl _, rfl⟩
          intro us
          go_simp
          exact rfl
        apply wpG_det (v := .agg #[.int .i64 b.x, .int .i64 b.y, .int .i64 b.z])
        exact fun _ => by rw [hop.out]; rfl
        · intro us w' hE hH
          have q0 := (KB.out.below hE).c0
          have q1 := (KB.out.below hE).c1
          have q2 := (KB.out.below hE).c2
          go_simp
          exact ⟨Gr.refl _, rfl⟩
        intro us
        go_simp
        exact rfl
        apply wpG_det (v := .agg #[.int .i64 a.x, .int .i64 a.y, .int .i64 a.z])
        exact fun _ => by rw [hop.out]; rfl
        · intro us w' hE hH
          have q0 := (KA.out.below hE).c0
          have q1 := (KA.out.below hE).c1
          have q2 := (KA.out.below hE).c2
          go_simp
          exact ⟨Gr.refl _, rfl⟩
        intro us
        go_simp
        exact rfl
        apply wpG_det (v := Value.bool (decide (a = b)))
        exact fun _ => by rw [hop.out]; rfl
        · intro us w' hE hH
          go_simp
          refine (covers_c b a w').mono ?_
          rw [show covF b a = decide (a = b) from cov_eq HR.out]
          rintro e w'' ⟨rfl, hb⟩
          exact ⟨_, rfl, hb, rfl⟩
        intro us
        go_simp
        exact rfl
        apply wpG_det (v := .agg #[.int .i64 a.x, .int .i64 a.y, .int .i64 a.z])
        exact fun _ => by rw [hop.out]; rfl
        · intro us w' hE hH
          have q0 := (KA.out.below hE).c0
          have q1 := (KA.out.below hE).c1
          have q2 := (KA.out.below hE).c2
          go_simp
          exact ⟨Gr.refl _, rfl⟩
        intro us
        go_simp
        exact rfl
        apply wpG_det (v := .agg #[.int .i64 b.x, .int .i64 b.y, .int .i64 b.z])
        exact fun _ => by rw [hop.out]; rfl
        · intro us w' hE hH
          have q0 := (KB.out.below hE).c0
          have q1 := (KB.out.below hE).c1
          have q2 := (KB.out.below hE).c2
          go_simp
          exact ⟨Gr.refl _, rfl⟩
        intro us
        go_simp
        exact rfl
        apply wpG_det (v := Value.bool (decide (a = b)))
        exact fun _ => by rw [hop.out]; rfl
        · intro us w' hE hH
          have q : ∀ W, (Op.equalIn 10000 54 (.agg #[.int .i64 a.x, .int .i64 a.y, .int .i64 a.z]) (.agg #[.int .i64 b.x, .int .i64 b.y, .int .i64 b.z])).run Try.prog W = .ok (decide (a = b)) W := fun W => eq_clk a b W
          go_simp
          exact ⟨Gr.refl _, rfl⟩
        intro us
        go_simp
        exact rfl
        apply wpG_det (v := Value.bool false)
        exact fun _ => by rw [hop.out]; rfl
        · intro us w' hE hH
          cases decide (a = b) <;> (go_simp; exact ⟨Gr.refl _, rfl⟩)
        intro us
        go_simp
        exact rfl
        repeat
          apply wpG_det
          exact fun _ => by rw [hop.out]; rfl
          intro us w' hE hH
          go_simp
          exact ⟨Gr.refl _, rfl⟩
          intro us
          go_simp
          exact rfl
        intro us w6 hE _
        clear hop
        replace KA := Lib.hid (KA.out.below hE)
        replace KB := Lib.hid (KB.out.below hE)
        replace KK := Lib.hid (KK.out.below hE)
        replace KM := Lib.hid (KM.out.below hE)
        replace KC := Lib.hid (gthen KC.out hE)
        clear hE
        have q0 := KA.out.c0
        have q1 := KA.out.c1
        have q2 := KA.out.c2
        go_wp2_with fail
        clear q0 q1 q2
        refine (step_c a (k % 3) _ (by omega) (by omega)).mono ?_
        have hst := @step_cov a (k % 3)
        unfold pv
        generalize (stepF a (k % 3)).1 = d at *
        generalize (stepF a (k % 3)).2 = er at *
        rintro e w7 ⟨rfl, hb7⟩
        have KD := Lib.hid (Bx.new w7 d)
        have bq := gthen hb7 (galloc w7 (.cells #[.int .i64 d.x, .int .i64 d.y, .int .i64 d.z] 54))
        replace KA := Lib.hid (KA.out.below bq)
        replace KC := Lib.hid (gthen KC.out bq)
        clear bq hb7 KB KK KM
        by_cases he : er = 0
        · obtain ⟨s1, s2⟩ := hst he
          have HS1 := Lib.hid s1
          have HS2 := Lib.hid s2
          subst he
          clear hst s1 s2
          have q0 := KA.out.c0
          have q1 := KA.out.c1
          have q2 := KA.out.c2
          unfold cv
          go_wp2_with fail
          clear q0 q1 q2
          refine (covers_c d a _).mono ?_
          rw [HS1.out]
          rintro e w8 ⟨rfl, hb8⟩
          replace KA := Lib.hid (KA.out.below hb8)
          have d0 := (KD.out.below hb8).c0
          have d1 := (KD.out.below hb8).c1
          have d2 := (KD.out.below hb8).c2
          replace KC := Lib.hid (gthen KC.out hb8)
          clear hb8
          have q0 := KA.out.c0
          have q1 := KA.out.c1
          have q2 := KA.out.c2
          go_wp2_with fail
          refine (covers_c a d _).mono ?_
          rw [HS2.out]
          rintro e w9 ⟨rfl, hb9⟩
          replace KC := Lib.hid (gthen KC.out hb9)
          clear hb9 q0 q1 q2 d0 d1 d2
          go_wp2_with fail
          go_ret
          exact ⟨rfl, KC.out⟩
        · have hv : (er != 0) = true := by rw [bne_iff_ne]; exact he
          clear he hst
          unfold cv
          go_wp2_with fail
          go_ret
          exact ⟨rfl, KC.out⟩
end Go.Proofs.Ytfcbpdokilidgaa
