/- Walk through clock.Covers, Beside. -/
import Derived.Test.YtfcbpdokilidgaaClkM
import Derived.Test.YtfcbpdokilidgaaGrow
import Derived.ChangeKeysEq
namespace Go.Proofs.Ytfcbpdokilidgaa
open Go.RowKit
set_option linter.unusedVariables false
set_option linter.unusedSimpArgs false
attribute [local go_sem] Gv

theorem Sc.new (w : World) (e : TypeId) (l : List Clk) (cs : Array Value) (hc : cs.toList = l.flatMap cc) (hl : l.length ≤ 1000000) (n : Nat) (hn : n = l.length) : Sc (w.alloc (.cells cs e)) (.slice (some ⟨w.heap.size, 0, none⟩) n n) l := by
  subst hn
  have hs : cs.size = l.length * 3 := by
    rw [← Array.length_toList, hc]
    clear hc hl
    induction l with
    | nil => rfl
    | cons c t ih => simp only [List.flatMap_cons, List.length_append, ih, List.length_cons]; simp [cc]; omega
  refine ⟨_, _, rfl, Nat.le_refl _, by simp only [maxLen]; omega, by rw [← hc, Array.length_toList, hs], fun _ => ⟨_, rfl, by simp, fun j u hu => ?_⟩⟩
  rw [add_zero_row, cell_of_row _ _ _ _ _ _ (heap_alloc_new w _), ← Array.getElem?_toList, hc]
  exact hu

theorem cov_merge (a b : Clk) : decide (mergeF [a, b] = a) = covF a b := by
  obtain ⟨ax, ay, az⟩ := a
  obtain ⟨bx, bcy, bz⟩ := b
  have h : ∀ o n : Int, (upd false o n = o) = (n ≤ o) := fun o n => by
    unfold upd
    by_cases h : o < n
    · rw [if_pos (.inr h)]; apply propext; omega
    · rw [if_neg (by simp <;> omega)]; apply propext; omega
  simp only [mergeF, List.foldl_cons, List.foldl_nil, updC, covF, Clk.mk.injEq, h, Bool.decide_and]
  rw [Bool.and_assoc]

theorem eq_clk (a b : Clk) (W : World) : (Op.equalIn 10000 54 (.agg #[.int .i64 a.x, .int .i64 a.y, .int .i64 a.z]) (.agg #[.int .i64 b.x, .int .i64 b.y, .int .i64 b.z])).run Try.prog W = .ok (decide (a = b)) W := by
  obtain ⟨i, hi⟩ : ∃ i, Try.prog.info? 2 = some i := Option.isSome_iff_exists.1 (by kernel_rfl)
  have hc : Try.prog.cellsOf 2 = 1 := by kernel_rfl
  have p0 : ∀ (x y z : Value) (w : World), (part 2 #[x, y, z] (0 * 1)).run Try.prog w = .ok x w := fun x y z w => by simp [part, isAgg, run_underlying Try.underlying2]
  have p1 : ∀ (x y z : Value) (w : World), (part 2 #[x, y, z] (1 * 1)).run Try.prog w = .ok y w := fun x y z w => by simp [part, isAgg, run_underlying Try.underlying2]
  have p2 : ∀ (x y z : Value) (w : World), (part 2 #[x, y, z] (2 * 1)).run Try.prog w = .ok z w := fun x y z w => by simp [part, isAgg, run_underlying Try.underlying2]
  have he : ∀ (m n : Int) (w : World), (Op.equalIn 9999 2 (.int .i64 m) (.int .i64 n)).run Try.prog w = .ok (m == n) w := fun m n w => run_equalIn_int w 9998 _ .i64 _ m n Try.underlying2
  rw [run_equalIn_array W 9999 _ _ Try.underlying54 hi, hc]
  obtain ⟨ax, ay, az⟩ := a
  obtain ⟨bx, bcy, bz⟩ := b
  dsimp only
  have e3 : List.range 3 = [0, 1, 2] := rfl
  rw [e3]
  simp only [Op.eqItems, Sem.run_bind, p0, Result.andThen_ok, he]
  by_cases h1 : ax = bx
  · have e1 : (ax == bx) = true := by rw [h1]; exact beq_self_eq_true _
    simp only [e1, Bool.not_true, Bool.false_eq_true, if_false, Sem.run_bind, p1, Result.andThen_ok, he]
    by_cases h2 : ay = bcy
    · have e2 : (ay == bcy) = true := by rw [h2]; exact beq_self_eq_true _
      simp only [e2, Bool.not_true, Bool.false_eq_true, if_false, Sem.run_bind, p2, Result.andThen_ok, he]
      by_cases h3 : az = bz
      · simp [h1, h2, h3]
      · have e : (az == bz) = false := beq_eq_false_iff_ne.2 h3
        simp [h1, h2, h3, e]
    · have e : (ay == bcy) = false := beq_eq_false_iff_ne.2 h2
      simp [h1, h2, e]
  · have e : (ax == bx) = false := beq_eq_false_iff_ne.2 h1
    simp [h1, e]

set_option maxRecDepth 100000 in
set_option maxHeartbeats 1000000 in
theorem covers_c (a b : Clk) (w : World) : Calls Try.prog 40 #[cv a, cv b] w (RetV w (.bool (covF a b))) := by
  have ha := Bx.new w a
  have hb := Bx.new (w.alloc (.cells #[.int .i64 a.x, .int .i64 a.y, .int .i64 a.z] 54)) b
  have hA := Lib.hid (Bx.alloc ha (.cells #[.int .i64 b.x, .int .i64 b.y, .int .i64 b.z] 54))
  have hB := Lib.hid hb
  clear ha hb
  have HE := Lib.hid (eq_clk (mergeF [a, b]) a)
  have HC := Lib.hid (cov_merge a b)
  go_enter Try.func40, Try.ntmps40
  unfold cv
  go_wp2_with fail
  refine wp_region_gr' (by kernel_rfl) (by kernel_rfl) ?_
  intro ops hop
  apply wpG_det (v := cv a)
  exact fun _ => by rw [hop.out]; rfl
  · intro us w' hE hH
    have q0 := (hA.out.below hE).c0
    have q1 := (hA.out.below hE).c1
    have q2 := (hA.out.below hE).c2
    try simp only [World.size_alloc] at q0 q1 q2
    go_simp
    exact ⟨Gr.refl _, rfl⟩
  intro us
  go_simp
  exact rfl
  apply wpG_det (v := cv b)
  exact fun _ => by rw [hop.out]; rfl
  · intro us w' hE hH
    have q0 := (hB.out.below hE).c0
    have q1 := (hB.out.below hE).c1
    have q2 := (hB.out.below hE).c2
    try simp only [World.size_alloc] at q0 q1 q2
    go_simp
    exact ⟨Gr.refl _, rfl⟩
  intro us
  go_simp
  exact rfl
  apply wpG_sat (fun u w => Sc w u [a, b]) (fun _ _ _ h hb => h.below hb)
  exact fun _ => by rw [hop.out]; rfl
  · intro us w' hE hH
    unfold cv
    go_simp
    exact ⟨(Below.refl _ _).alloc (Nat.le_refl _) _, Sc.new w' _ [a, b] _ rfl (by simp) 2 rfl⟩
  intro us
  go_simp
  exact rfl
  apply wpG_det (v := cv (mergeF [a, b]))
  exact fun _ => by rw [hop.out]; rfl
  · intro us w' hE hH
    go_simp
    refine (merge_c _ [a, b] w' (hH.1 rfl)).mono ?_
    rintro e w'' ⟨rfl, hb⟩
    exact ⟨_, rfl, hb, rfl⟩
  intro us
  go_simp
  exact rfl
  apply wpG_det (v := cv a)
  exact fun _ => by rw [hop.out]; rfl
  · intro us w' hE hH
    have q0 := (hA.out.below hE).c0
    have q1 := (hA.out.below hE).c1
    have q2 := (hA.out.below hE).c2
    try simp only [World.size_alloc] at q0 q1 q2
    go_simp
    exact ⟨Gr.refl _, rfl⟩
  intro us
  go_simp
  exact rfl
  apply wpG_det (v := .bool (covF a b))
  exact fun _ => by rw [hop.out]; rfl
  · intro us w' hE hH
    unfold cv
    go_simp
    rw [HE.out, HC.out]
    exact ⟨Gr.refl _, rfl⟩
  intro us
  go_simp
  exact rfl
  repeat
    apply wpG_det
    exact fun _ => by rw [hop.out]; rfl
    intro us w' hE hH
    go_simp
    exact ⟨Gr.refl _, rfl⟩
    intro us
    go_simp
    exact rfl
  intro us w' hE _
  clear hop
  go_wp2_with fail
  go_ret
  exact ⟨rfl, gthen (gthen (galloc _ _) (galloc _ _)) hE⟩
end Go.Proofs.Ytfcbpdokilidgaa
