/- Parts of the proofs, joined: ScrI. -/
import Derived.Test.YtgfnpcmehnjopaaDoorB11
import Derived.Test.YtgfnpcmehnjopaaDoorB22
namespace Go.Proofs.YtgfnpcmehnjopaaDoor
open Go Go.RowKit
set_option linter.unusedVariables false
set_option linter.unusedSimpArgs false
variable {K : Nat → Obj → Prop}
theorem putP_eq (p : Prop) [Decidable p] (b : List UInt8) (n : Int) : putP p b [n] = b ++ (if p then vput n.toNat else []) := by
  unfold putP
  split <;> simp
set_option maxRecDepth 100000 in
set_option maxHeartbeats 4000000 in
theorem sbytes_s (hT : TT K) (x : It) (hc : checkI x = 0) (hm : ItM x) : Sp Tryd.prog K 43 [itV x] [] fun u hh => u = .sl 1 (bs (bytesI x)) ∧ hh = [] := by
  obtain ⟨⟨d0, d1⟩, ⟨o0, o1, o2⟩, ⟨n0, n1, n2⟩, ⟨a0, a1, a2⟩, m2, hr, k2, hw, w2, kl, k3, k4⟩ := checkI_ok hc
  obtain ⟨m0, m1⟩ := hm
  obtain ⟨w1, w3⟩ := wok_of hw
  have hd : 0 ≤ x.d ∧ x.d ≤ 8 := ⟨d0, d1⟩
  have lv := vput_len (n := x.d.toNat) (by omega)
  obtain ⟨b0, hb0⟩ : ∃ b, vput x.d.toNat = b := ⟨_, rfl⟩
  have cv := vputO_s (K := K) (m := x.d) (by omega) (by omega)
  rw [hb0] at lv cv
  obtain ⟨b1, hb1⟩ : ∃ b, putP (x.d < 3 ∨ x.d = 7 ∨ x.d = 8) b0 [x.o] = b := ⟨_, rfl⟩
  have l1 := putP_len (x.d < 3 ∨ x.d = 7 ∨ x.d = 8) b0 x.o (by omega)
  have c1 := sput_s hT tells_3 x hd b0 x.o (fun _ => by omega) (by omega)
  rw [hb1] at l1 c1
  obtain ⟨b2, hb2⟩ : ∃ b, putP (3 ≤ x.d ∧ x.d ≤ 6 ∨ x.d = 8) b1 [x.n] = b := ⟨_, rfl⟩
  have l2 := putP_len (3 ≤ x.d ∧ x.d ≤ 6 ∨ x.d = 8) b1 x.n (by omega)
  have c2 := sput_s hT tells_4 x hd b1 x.n (fun _ => by omega) (by omega)
  rw [hb2] at l2 c2
  obtain ⟨b3, hb3⟩ : ∃ b, putP (x.d = 6) b2 [x.a] = b := ⟨_, rfl⟩
  have l3 := putP_len (x.d = 6) b2 x.a (by omega)
  have c3 := sput_s hT tells_8 x hd b2 x.a (fun _ => by omega) (by omega)
  rw [hb3] at l3 c3
  obtain ⟨b4, hb4⟩ : ∃ b, putP (x.d = 6) b3 [x.m] = b := ⟨_, rfl⟩
  have l4 := putP_len (x.d = 6) b3 x.m (by omega)
  have c4 := sput_s hT tells_16 x hd b3 x.m (fun _ => by omega) (by omega)
  rw [hb4] at l4 c4
  have ch := fun h => hasP hT tells_32 x hd h
  have cc := fun h => cput_s (K := K) ⟨0, 0, 0⟩ x.c h
  obtain ⟨cp, hcp⟩ : ∃ c, cputF ⟨0, 0, 0⟩ x.c = c := ⟨_, rfl⟩
  have lc : cp.1.length ≤ 30 := by
    rw [← hcp]
    unfold cputF
    split
    · have z1 := zz_len (x.c.x - 0)
      have z2 := zz_len (x.c.y - 0)
      have z3 := zz_len (x.c.z - 0)
      simp only [List.length_append]; omega
    · simp
  rw [hcp] at cc
  have e5 : (if x.d = 0 then b4 ++ cp.1 else b4) = b4 ++ (if x.d = 0 then cp.1 else []) := by split <;> simp
  have l5 : (if x.d = 0 then b4 ++ cp.1 else b4).length ≤ 80 := by split <;> (try rw [List.length_append]) <;> omega
  obtain ⟨b6, hb6⟩ : ∃ b, putP (x.d = 0) (if x.d = 0 then b4 ++ cp.1 else b4) [(x.w.length : Int)] = b := ⟨_, rfl⟩
  have l6 := putP_len (x.d = 0) (if x.d = 0 then b4 ++ cp.1 else b4) (x.w.length : Int) (by omega)
  have c5 := sput_s hT tells_64 x hd (if x.d = 0 then b4 ++ cp.1 else b4) (x.w.length : Int) (fun _ => by omega) (by omega)
  rw [hb6] at l6 c5
  obtain ⟨b7, hb7⟩ : ∃ b, b6 ++ x.w.flatMap textF = b := ⟨_, rfl⟩
  obtain ⟨b8, hb8⟩ : ∃ b, putP (x.d = 7) b7 [(x.k.length : Int)] = b := ⟨_, rfl⟩
  have hbytes : bytesI x = b8 ++ x.k.flatMap fun n => vput n.toNat := by
    rw [bytesI_eq, ← hb8, putP_eq, ← hb7, ← hb6, putP_eq, e5, ← hb4, putP_eq, ← hb3, putP_eq, ← hb2, putP_eq, ← hb1, putP_eq, ← hb0, ← hcp]
    have f1 : (if x.d = 0 then x.w.flatMap textF else []) = x.w.flatMap textF := by
      split
      · rfl
      · rename_i h; rw [w2.resolve_right h]; rfl
    have f2 : (if x.d = 7 then x.k.flatMap (fun n => vput n.toNat) else []) = x.k.flatMap (fun n => vput n.toNat) := by
      split
      · rfl
      · rename_i h; rw [k3.resolve_right h]; rfl
    rw [f1, f2]
    simp only [List.append_assoc, List.append_nil, Int.toNat_natCast]
  rw [hbytes]
  clear hbytes
  have c6 : ∀ b : List UInt8, b.length ≤ 100000 → Sp Tryd.prog K 80 [.sc (.int .i64 128), .sl 1 [[.sc (.int .u64 (x.k.length : Int))]], .ptr 0 0, .ptr 1 0] [.cells (itL x), .cells [.own 1 (bs b) 2], .tail] fun u hh => u = .tup [] ∧ hh = [.cells (itL x), .cells [.own 1 (bs (putP (x.d = 7) b [(x.k.length : Int)])) 3], .dead, .tail] :=
    fun b hb => sput_s hT tells_128 x hd b (x.k.length : Int) (fun _ => by omega) (by omega)
  have c7 : ∀ (b : List UInt8) (n : Int), b.length ≤ 100000 → 0 ≤ n → n ≤ 1048576 → x.d = 7 → Sp Tryd.prog K 80 [.sc (.int .i64 128), .sl 1 [[.sc (.int .u64 n)]], .ptr 0 0, .ptr 1 0] [.cells (itL x), .cells [.own 1 (bs b) 2], .tail] fun u hh => u = .tup [] ∧ hh = [.cells (itL x), .cells [.own 1 (bs (b ++ vput n.toNat)) 3], .dead, .tail] := fun b n hb g0 g1 h7 => by
    have := sput_s hT tells_128 x hd b n (fun _ => by omega) (by omega)
    rwa [putP_eq, if_pos h7] at this
  clear hb0 hb1 hb2 hb3 hb4 hb6 e5 hcp hc hw hr k2
  obtain ⟨d, o, n, a, m, ⟨cx, cy, cz⟩, w, k⟩ := x
  dsimp only [clkV] at *
  refine Sp.of_bodyE Tryd.func43 rfl ?_
  intro Q hQ
  simp only [List.replicate, List.length_cons, List.length_nil, Tryd.ntmps43, Nat.reduceAdd, Nat.reduceSub, List.cons_append, List.nil_append, go_sem]
  have hz : True := trivial
  have hy := yieldedV_eq
  have hL := True.intro
  repeat' (first | ((with_reducible refine WPV.seqJB 7 ⟨[.any, .ptr 0 0, .sc (.slice none 0 0), .ptr 1 0, .fn 80 [.ptr 0 0, .ptr 1 0], .any, .any, .any, .any, .any, .any, .any, .any, .any, .any, .any, .any, .any, .any, .any, .any, .any, .any, .any, .any, .any, .any, .any, .any, .any, .any, .any, .any, .any, .any, .any, .any, .any, .any, .any, .any, .any, .any, .any, .any, .any, .any, .any, .any, .any, .any, .any, .any, .any, .any, .any, .any, .any, .any, .any, .any, .any, .any, .any, .any, .any, .any, .any, .any, .any, .any, .any, .any, .any, .any, .any, .any, .any, .any, .any, .any, .any, .any, .any, .any, .any, .any, .any, .any, .any, .any, .any], [.cells (itL ⟨d, o, n, a, m, ⟨cx, cy, cz⟩, w, k⟩), .cells [.own 1 (bs (if d = 0 then b4 ++ cp.1 else b4)) 2], .tail]⟩  ?_ ?_); intro N hN) | exact (Desc.re [some 0, some 2, some 6] rfl).trans jnR | exact (Desc.re [some 0, some 2, some 7] rfl).trans jnR | (refine WPV.seqK ?_; intro N hN) | refine gA ?_ | (refine gR (M := noM) ?_; intro N hN ops hy) | (refine gD (M := noM) ?_; intro N hN; have hy := yieldedV_eq) | (refine WPV.condK ?_; intro A hA B hB) | (refine here ?_; refine sS ?_) | refine Both.mk ?_ ?_ | ((with_reducible refine CallO.gd 62 ?_); refine CallO.frB [] Tryd.call62 (cv) ?_) | ((with_reducible refine CallO.gd 80 ?_); first | refine CallO.frB [0, 2, 1] Tryd.call80 (c1) ?_ | refine CallO.frB [0, 2, 3] Tryd.call80 (c2) ?_ | refine CallO.frB [0, 2, 4] Tryd.call80 (c3) ?_ | refine CallO.frB [0, 2, 5] Tryd.call80 (c4) ?_ | refine CallO.frB [0, 1, 2] Tryd.call80 (c5) ?_) | ((with_reducible refine CallO.gd 52 ?_); refine CallO.toB Tryd.call52 (ch _) ?_) | ((with_reducible refine CallO.gd 81 ?_); refine CallO.toB Tryd.call81 (cc _) ?_) | ((with_reducible refine CallP.gd 52 ?_); refine CallP.toB Tryd.call52 (ch _) ?_) | ((with_reducible refine CallP.gd 81 ?_); refine CallP.toB Tryd.call81 (cc _) ?_) | (refine hN _ ?_; try clear hN N; try clear hy ops) | (refine hA ?_; clear hA A hB B; try simp only [hz]) | (refine hB ?_; clear hA A hB B; try simp only [hz]) | (refine gG ?_ ?_ <;> (intro hz; have h := nm hz; try (exfalso; omega)) <;> (have hz := nz hz; try subst hz)) | (rw [if_pos (show _ ∧ _ from ⟨by omega, by omega⟩)]; refine sS ?_) | refine gT ?_ | (clear hN N))
  clear c1 c2 c3 c4 c5 cc ch cv
  refine WPV.loopW (α := Nat × List UInt8) (fun q => w.length - q.1) (fun q => ⟨[.any, .ptr 0 0, .any, .ptr 1 0, .fn 80 [.ptr 0 0, .ptr 1 0], .any, .any, .any, .any, .any, .any, .any, .any, .any, .any, .any, .any, .any, .any, .any, .any, .any, .any, .any, .any, .any, .any, .any, .any, .any, .any, .any, .any, .any, .any, .any, .any, .any, .any, .any, .any, .any, .any, .any, .any, .any, .any, .any, .any, .any, .any, .any, .any, .any, .any, .any, .any, .any, .any, .any, .sl 3 (wrl w), .sc (.int .i64 (w.length : Int)), .sc (.int .i64 ((q.1 : Nat) : Int)), .any, .any, .any, .any, .any, .any, .any, .any, .any, .any, .any, .any, .any, .any, .any, .any, .any, .any, .any, .any, .any, .any, .any, .any, .any, .any, .any, .any, .any], [.cells (itL ⟨d, o, n, a, m, ⟨cx, cy, cz⟩, w, k⟩), .cells [.own 1 (bs q.2) 2], .tail]⟩) (fun q => q.1 ≤ w.length ∧ b7 = q.2 ++ (w.drop q.1).flatMap textF ∧ q.2.length ≤ 120 + 340 * q.1) (0, b6) ((Desc.re [some 0, some 1, some 3] rfl).trans Desc.weakA) ⟨Nat.zero_le _, hb7.symm, by dsimp only; omega⟩ (fun q hJ H => ?_)
  obtain ⟨i, b⟩ := q
  dsimp only at hJ H ⊢
  obtain ⟨j1, j2, j3⟩ := hJ
  by_cases h : i < w.length
  · obtain ⟨y, hg⟩ : ∃ y, w[i] = y := ⟨_, rfl⟩
    have hget : w[i]? = some y := by rw [← hg]; exact List.getElem?_eq_getElem h
    rw [List.drop_eq_getElem_cons h, hg, List.flatMap_cons, ← List.append_assoc] at j2
    obtain ⟨g1, g2, g3⟩ := w3 y (hg ▸ List.getElem_mem h)
    have tl2 := textF_len g1 g2
    have H' := H (i + 1, b ++ textF y) ⟨h, j2, by dsimp only; rw [List.length_append]; omega⟩ (by dsimp only; omega)
    have ct := fun h => stext_s (K := K) y g1 g2 h
    clear H hg
    dsimp only at H'
    obtain ⟨yk, yv, yg⟩ := y
    refine loopV ?_
    have hz : True := trivial
    have hy := yieldedV_eq
    have hL := @hget
    repeat' (first | (refine WPV.seqK ?_; intro N hN) | refine gA ?_ | (refine gR (M := noM) ?_; intro N hN ops hy) | (refine gD (M := noM) ?_; intro N hN; have hy := yieldedV_eq) | (refine WPV.condK ?_; intro A hA B hB) | (refine here ?_; refine sS ?_) | refine Both.mk ?_ ?_ | ((with_reducible refine CallO.gd 82 ?_); refine CallO.toB Tryd.call82 (ct _) ?_) | ((with_reducible refine CallP.gd 82 ?_); refine CallP.toB Tryd.call82 (ct _) ?_) | (refine hN _ ?_; try clear hN N; try clear hy ops) | (refine hA ?_; clear hA A hB B; try simp only [hz]) | (refine hB ?_; clear hA A hB B; try simp only [hz]) | (refine gG ?_ ?_ <;> (intro hz; have h := nm hz; try (exfalso; omega)) <;> (have hz := nz hz; try subst hz)) | (rw [if_pos (show _ ∧ _ from ⟨by omega, by omega⟩)]; refine sS ?_) | refine gT ?_ | (clear hN N))
    all_goals (exact rndZ (Desc.re [some 0, some 1, some 4] rfl) (H'))
  obtain rfl : i = w.length := by omega
  rw [List.drop_length, List.flatMap_nil, List.append_nil] at j2
  subst j2
  have c6 := c6 b7 (by omega)
  rw [hb8] at c6
  have l8 := putP_len (d = 7) b7 (k.length : Int) (by omega)
  rw [hb8] at l8
  clear H hb7 hb8
  refine loopV ?_
  have hz : True := trivial
  have hy := yieldedV_eq
  have hL := True.intro
  repeat' (first | (refine WPV.seqK ?_; intro N hN) | refine gA ?_ | (refine gR (M := noM) ?_; intro N hN ops hy) | (refine gD (M := noM) ?_; intro N hN; have hy := yieldedV_eq) | (refine WPV.condK ?_; intro A hA B hB) | (refine here ?_; refine sS ?_) | refine Both.mk ?_ ?_ | ((with_reducible refine CallO.gd 80 ?_); refine CallO.frB [0, 1, 2] Tryd.call80 (c6) ?_) | (refine hN _ ?_; try clear hN N; try clear hy ops) | (refine hA ?_; clear hA A hB B; try simp only [hz]) | (refine hB ?_; clear hA A hB B; try simp only [hz]) | (refine gG ?_ ?_ <;> (intro hz; have h := nm hz; try (exfalso; omega)) <;> (have hz := nz hz; try subst hz)) | (rw [if_pos (show _ ∧ _ from ⟨by omega, by omega⟩)]; refine sS ?_) | refine gT ?_ | (clear hN N))
  refine WPV.loopW (α := Nat × List UInt8) (fun q => k.length - q.1) (fun q => ⟨[.any, .ptr 0 0, .any, .ptr 1 0, .fn 80 [.ptr 0 0, .ptr 1 0], .any, .any, .any, .any, .any, .any, .any, .any, .any, .any, .any, .any, .any, .any, .any, .any, .any, .any, .any, .any, .any, .any, .any, .any, .any, .any, .any, .any, .any, .any, .any, .any, .any, .any, .any, .any, .any, .any, .any, .any, .any, .any, .any, .any, .any, .any, .any, .any, .any, .any, .any, .any, .any, .any, .any, .any, .any, .any, .any, .any, .any, .any, .any, .any, .any, .any, .any, .any, .any, .any, .any, .any, .any, .any, .sl 1 (il k), .sc (.int .i64 (k.length : Int)), .sc (.int .i64 ((q.1 : Nat) : Int)), .any, .any, .any, .any, .any, .any, .any, .any, .any, .any], [.cells (itL ⟨d, o, n, a, m, ⟨cx, cy, cz⟩, w, k⟩), .cells [.own 1 (bs q.2) 2], .tail]⟩) (fun q => q.1 ≤ k.length ∧ (b8 ++ k.flatMap fun n => vput n.toNat) = q.2 ++ (k.drop q.1).flatMap (fun n => vput n.toNat) ∧ q.2.length ≤ 7000 + 10 * q.1) (0, b8) ((Desc.re [some 0, some 1, some 3] rfl).trans Desc.weakA) ⟨Nat.zero_le _, rfl, by dsimp only; omega⟩ (fun q hJ H => ?_)
  obtain ⟨i, b⟩ := q
  dsimp only at hJ H ⊢
  obtain ⟨i1, i2, i3⟩ := hJ
  by_cases h : i < k.length
  · obtain ⟨y, hg⟩ : ∃ y, k[i] = y := ⟨_, rfl⟩
    have hget : k[i]? = some y := by rw [← hg]; exact List.getElem?_eq_getElem h
    rw [List.drop_eq_getElem_cons h, hg, List.flatMap_cons, ← List.append_assoc] at i2
    obtain ⟨g1, g2⟩ := k4 y (hg ▸ List.getElem_mem h)
    have h7 : d = 7 := by
      rcases k3 with h0 | h0
      · subst h0; simp at h
      · exact h0
    have lv := vput_len (n := y.toNat) (by omega)
    have H' := H (i + 1, b ++ vput y.toNat) ⟨h, i2, by dsimp only; rw [List.length_append]; omega⟩ (by dsimp only; omega)
    have c7 := c7 b y (by omega) g1 g2 h7
    clear H hg c6
    dsimp only at H'
    refine loopV ?_
    have hz : True := trivial
    have hy := yieldedV_eq
    have hL := @hget
    repeat' (first | (refine WPV.seqK ?_; intro N hN) | refine gA ?_ | (refine gR (M := noM) ?_; intro N hN ops hy) | (refine gD (M := noM) ?_; intro N hN; have hy := yieldedV_eq) | (refine WPV.condK ?_; intro A hA B hB) | (refine here ?_; refine sS ?_) | refine Both.mk ?_ ?_ | ((with_reducible refine CallO.gd 80 ?_); refine CallO.frB [0, 1, 2] Tryd.call80 (c7) ?_) | (refine hN _ ?_; try clear hN N; try clear hy ops) | (refine hA ?_; clear hA A hB B; try simp only [hz]) | (refine hB ?_; clear hA A hB B; try simp only [hz]) | (refine gG ?_ ?_ <;> (intro hz; have h := nm hz; try (exfalso; omega)) <;> (have hz := nz hz; try subst hz)) | (rw [if_pos (show _ ∧ _ from ⟨by omega, by omega⟩)]; refine sS ?_) | refine gT ?_ | (clear hN N))
    all_goals (exact rndZ (Desc.re [some 0, some 1, some 3] rfl) (H'))
  obtain rfl : i = k.length := by omega
  rw [List.drop_length, List.flatMap_nil, List.append_nil] at i2
  rw [i2] at hQ
  clear H c6 c7
  refine loopV ?_
  have hz : True := trivial
  have hy := yieldedV_eq
  have hL := True.intro
  repeat' (first | (refine WPV.seqK ?_; intro N hN) | refine gA ?_ | (refine gR (M := noM) ?_; intro N hN ops hy) | (refine gD (M := noM) ?_; intro N hN; have hy := yieldedV_eq) | (refine WPV.condK ?_; intro A hA B hB) | (refine here ?_; refine sS ?_) | refine Both.mk ?_ ?_ | (refine hN _ ?_; try clear hN N; try clear hy ops) | (refine hA ?_; clear hA A hB B; try simp only [hz]) | (refine hB ?_; clear hA A hB B; try simp only [hz]) | (refine gG ?_ ?_ <;> (intro hz; have h := nm hz; try (exfalso; omega)) <;> (have hz := nz hz; try subst hz)) | (rw [if_pos (show _ ∧ _ from ⟨by omega, by omega⟩)]; refine sS ?_) | refine gT ?_ | (clear hN N))
  all_goals (first | exact retZ hQ Tryd.results43 (Desc.re [] rfl) | exact retZN hQ Tryd.results43 (Desc.re [] rfl))
end Go.Proofs.YtgfnpcmehnjopaaDoor
