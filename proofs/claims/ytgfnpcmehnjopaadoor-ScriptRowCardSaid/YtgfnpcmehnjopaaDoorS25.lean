/- Parts of the proofs, joined: ScrJ. -/
import Derived.Test.YtgfnpcmehnjopaaDoorS11
import Derived.Test.YtgfnpcmehnjopaaDoorS16
namespace Go.Proofs.YtgfnpcmehnjopaaDoor
open Go Go.RowKit
set_option linter.unusedVariables false
set_option linter.unusedSimpArgs false
variable {K : Nat → Obj → Prop}
set_option maxRecDepth 100000 in
theorem rnum_s (n : Int) (h0 : 0 ≤ n) (h1 : n < 9223372036854775808) (h : List Ho) : Sp Tryd.prog K 83 [.sc (.int .i64 n)] h fun u hh => u = .sl 1 (bs (vput n.toNat)) ∧ hh = h := by
  refine Sp.lift (vs := [.sc (.int .i64 n)]) ?_ (fun _ => rfl) (fun _ => rfl) h
  refine Sp.of_bodyE Tryd.func83 rfl ?_
  intro Q hQ
  simp only [List.replicate, List.length_cons, List.length_nil, Tryd.ntmps83, Nat.reduceAdd, Nat.reduceSub, List.cons_append, List.nil_append, go_sem]
  have hz : True := trivial
  have hy := yieldedV_eq
  have hL := True.intro
  repeat' (first | (refine WPV.seqK ?_; intro N hN) | refine gA ?_ | (refine gR (M := noM) ?_; intro N hN ops hy) | (refine gD (M := noM) ?_; intro N hN; have hy := yieldedV_eq) | (refine WPV.condK ?_; intro A hA B hB) | (refine here ?_; refine sS ?_) | refine Both.mk ?_ ?_ | ((with_reducible refine CallO.gd 126 ?_); refine CallO.toB Tryd.call126 (vrput_s (m := n) (by omega) (by omega) _) ?_) | ((with_reducible refine CallP.gd 126 ?_); refine CallP.toB Tryd.call126 (vrput_s (m := n) (by omega) (by omega) _) ?_) | (refine hN _ ?_; try clear hN N; try clear hy ops) | (refine hA ?_; clear hA A hB B; try simp only [hz]) | (refine hB ?_; clear hA A hB B; try simp only [hz]) | (refine gG ?_ ?_ <;> (intro hz; have h := nm hz; try (exfalso; omega)) <;> (have hz := nz hz; try subst hz)) | (rw [if_pos (show _ ∧ _ from ⟨by omega, by omega⟩)]; refine sS ?_) | refine gT ?_ | (clear hN N))
  all_goals (first | exact retZ hQ Tryd.results83 (Desc.re [] rfl) | exact retZN hQ Tryd.results83 (Desc.re [] rfl))
set_option maxRecDepth 100000 in
theorem rnumO_s (n : Int) (h0 : 0 ≤ n) (h1 : n < 9223372036854775808) : Sp Tryd.prog K 83 [.sc (.int .i64 n)] [] fun u hh => u = .own 1 (bs (vput n.toNat)) 0 ∧ hh = [.tail] := by
  refine Sp.of_bodyE Tryd.func83 rfl ?_
  intro Q hQ
  simp only [List.replicate, List.length_cons, List.length_nil, Tryd.ntmps83, Nat.reduceAdd, Nat.reduceSub, List.cons_append, List.nil_append, go_sem]
  have hz : True := trivial
  have hy := yieldedV_eq
  have hL := True.intro
  repeat' (first | (refine WPV.seqK ?_; intro N hN) | refine gA ?_ | (refine gR (M := noM) ?_; intro N hN ops hy) | (refine gD (M := noM) ?_; intro N hN; have hy := yieldedV_eq) | (refine WPV.condK ?_; intro A hA B hB) | (refine here ?_; refine sS ?_) | refine Both.mk ?_ ?_ | ((with_reducible refine CallO.gd 126 ?_); refine CallO.frB [] Tryd.call126 (vrputO_s (m := n) (by omega) (by omega)) ?_) | (refine hN _ ?_; try clear hN N; try clear hy ops) | (refine hA ?_; clear hA A hB B; try simp only [hz]) | (refine hB ?_; clear hA A hB B; try simp only [hz]) | (refine gG ?_ ?_ <;> (intro hz; have h := nm hz; try (exfalso; omega)) <;> (have hz := nz hz; try subst hz)) | (rw [if_pos (show _ ∧ _ from ⟨by omega, by omega⟩)]; refine sS ?_) | refine gT ?_ | (clear hN N))
  all_goals (first | exact retZ hQ Tryd.results83 (Desc.re [some 0] rfl) | exact retZN hQ Tryd.results83 (Desc.re [some 0] rfl))
theorem bsz3 (k : ByteArray) : k.toList.length = k.size := by rw [ByteArray.toList_eq]; simp
theorem textF_t (k v : ByteArray) : textF ⟨k, v, true⟩ = vput k.size ++ k.toList ++ [0] := rfl
theorem textF_f (k v : ByteArray) : textF ⟨k, v, false⟩ = vput k.size ++ k.toList ++ (vput (v.size + 1) ++ v.toList) := rfl
def rbytesP (K : Nat → Obj → Prop) (x : It) : Prop := Sp Tryd.prog K 45 [itV x] [] fun u hh => u = .sl 1 (bs (bytesI x)) ∧ hh = []
set_option maxRecDepth 100000 in
set_option maxHeartbeats 4000000 in
theorem rbytes_0 (x : It) (hc : checkI x = 0) (hd : x.d = 0) : rbytesP K x := by
  obtain ⟨⟨d0, d1⟩, ⟨o0, o1, o2⟩, ⟨n0, n1, n2⟩, ⟨a0, a1, a2⟩, m2, hr, k2, hw, w2, kl, k3, k4⟩ := checkI_ok hc
  obtain ⟨w1, w3⟩ := wok_of hw
  have cw := fun h => rwho_s (K := K) x ⟨d0, d1⟩ h
  have cn := fun h => rnumber_s (K := K) x ⟨d0, d1⟩ h
  have cc := fun h => rcput_s (K := K) ⟨0, 0, 0⟩ x.c h
  obtain ⟨cp, hcp⟩ : ∃ c, cputF ⟨0, 0, 0⟩ x.c = c := ⟨_, rfl⟩
  have lc : cp.1.length ≤ 30 := by
    rw [← hcp]
    unfold cputF
    split
    · have z1 := zz_len (x.c.x - 0)
      have z2 := zz_len (x.c.y - 0)
      have z3 := zz_len (x.c.z - 0)
      simp only [List.length_append]; omega
    · simp
  have l1 := vput_len (n := x.o.toNat) (by omega)
  have l2 := vput_len (n := x.w.length) (by omega)
  have l0 := vput_len (n := 0) (by omega)
  have hb : bytesI x = vput 0 ++ vput x.o.toNat ++ cp.1 ++ vput x.w.length ++ x.w.flatMap textF := by
    rw [bytesI_eq, hd, hcp]; simp
  unfold rbytesP
  rw [hb]
  rw [hcp] at cc
  clear hb hcp hc hw hr k2
  obtain ⟨d, o, n, a, m, ⟨cx, cy, cz⟩, w, k⟩ := x
  dsimp only [clkV] at *
  subst hd
  refine Sp.of_bodyE Tryd.func45 rfl ?_
  intro Q hQ
  simp only [List.replicate, List.length_cons, List.length_nil, Tryd.ntmps45, Nat.reduceAdd, Nat.reduceSub, List.cons_append, List.nil_append, go_sem]
  have hz : True := trivial
  have hy := yieldedV_eq
  have hL := True.intro
  repeat' (first | (refine WPV.seqK ?_; intro N hN) | refine gA ?_ | (refine gR (M := noM) ?_; intro N hN ops hy) | (refine gD (M := noM) ?_; intro N hN; have hy := yieldedV_eq) | (refine WPV.condK ?_; intro A hA B hB) | (refine here ?_; refine sS ?_) | refine Both.mk ?_ ?_ | ((with_reducible refine CallO.gd 83 ?_); first | refine CallO.frB [] Tryd.call83 (rnumO_s 0 (by omega) (by omega)) ?_ | refine CallO.toB Tryd.call83 (rnum_s o (by omega) (by omega) _) ?_ | refine CallO.toB Tryd.call83 (rnum_s (w.length : Int) (by omega) (by omega) _) ?_) | ((with_reducible refine CallO.gd 57 ?_); refine CallO.toB Tryd.call57 (cw _) ?_) | ((with_reducible refine CallO.gd 58 ?_); refine CallO.toB Tryd.call58 (cn _) ?_) | ((with_reducible refine CallO.gd 84 ?_); refine CallO.toB Tryd.call84 (cc _) ?_) | ((with_reducible refine CallP.gd 83 ?_); first | refine CallP.toB Tryd.call83 (rnum_s o (by omega) (by omega) _) ?_ | refine CallP.toB Tryd.call83 (rnum_s (w.length : Int) (by omega) (by omega) _) ?_) | ((with_reducible refine CallP.gd 57 ?_); refine CallP.toB Tryd.call57 (cw _) ?_) | ((with_reducible refine CallP.gd 58 ?_); refine CallP.toB Tryd.call58 (cn _) ?_) | ((with_reducible refine CallP.gd 84 ?_); refine CallP.toB Tryd.call84 (cc _) ?_) | (refine hN _ ?_; try clear hN N; try clear hy ops) | (refine hA ?_; clear hA A hB B; try simp only [hz]) | (refine hB ?_; clear hA A hB B; try simp only [hz]) | (refine gG ?_ ?_ <;> (intro hz; have h := nm hz; try (exfalso; omega)) <;> (have hz := nz hz; try subst hz)) | (rw [if_pos (show _ ∧ _ from ⟨by omega, by omega⟩)]; refine sS ?_) | refine gT ?_ | (clear hN N))
  generalize hhd : vput 0 ++ vput o.toNat ++ cp.1 ++ vput w.length = hd at *
  have lhd : hd.length ≤ 80 := by rw [← hhd]; simp only [List.length_append]; omega
  clear hhd cw cn cc
  refine WPV.loopW (α := Nat × List UInt8) (fun q => w.length - q.1) (fun q => ⟨[.any, .ptr 0 0, .any, .own 1 (bs q.2) 1, .any, .any, .sc (.int .i64 ((q.1 : Nat) : Int)), .any, .any, .any, .any, .any, .any, .any, .any, .any, .any, .any, .any, .any, .any, .any, .any, .any, .any, .any, .any, .any, .any, .any, .any, .any, .any, .any, .any, .any, .any, .any, .any, .any, .any, .any, .any, .any, .any, .any, .any, .any, .any, .any, .any, .any, .any, .any, .any, .any, .any, .any, .any, .any, .any, .any, .any, .any, .any, .any, .any, .any, .any, .any, .any, .any, .any, .any, .any, .any, .any, .any, .any, .any, .any, .any, .any, .any, .any, .any, .any, .any, .any, .any, .any, .any, .any, .any, .any, .any, .any, .any, .any, .any, .any, .any, .any, .any, .any, .any, .any, .any, .any, .any, .any, .any, .any, .any, .any, .any, .any, .any, .any, .any], [.cells (itL ⟨0, o, n, a, m, ⟨cx, cy, cz⟩, w, k⟩), .tail]⟩) (fun q => q.1 ≤ w.length ∧ hd ++ w.flatMap textF = q.2 ++ (w.drop q.1).flatMap textF ∧ q.2.length ≤ 120 + 340 * q.1) (0, hd) ((Desc.re [some 0, some 4] rfl).trans Desc.weakA) ⟨Nat.zero_le _, rfl, by dsimp only; omega⟩ (fun q hJ H => ?_)
  obtain ⟨i, b⟩ := q
  dsimp only at hJ H ⊢
  obtain ⟨j1, j2, j3⟩ := hJ
  by_cases h : i < w.length
  · obtain ⟨y, hg⟩ : ∃ y, w[i] = y := ⟨_, rfl⟩
    have hget : w[i]? = some y := by rw [← hg]; exact List.getElem?_eq_getElem h
    rw [List.drop_eq_getElem_cons h, hg, List.flatMap_cons, ← List.append_assoc] at j2
    obtain ⟨g1, g2, g3⟩ := w3 y (hg ▸ List.getElem_mem h)
    have tl2 : (textF y).length ≤ 340 := by
      have l1 := vput_len (n := y.k.size) (by omega)
      have l2 := vput_len (n := y.v.size + 1) (by omega)
      have l3 := bsz3 y.k
      have l4 := bsz3 y.v
      unfold textF
      split <;> simp only [List.length_append, List.length_cons, List.length_nil] <;> omega
    have H' := H (i + 1, b ++ textF y) ⟨h, j2, by dsimp only; rw [List.length_append]; omega⟩ (by dsimp only; omega)
    clear H hg
    dsimp only at H'
    obtain ⟨yk, yv, yg⟩ := y
    dsimp only at g1 g2
    have l1 := vput_len (n := yk.size) (by omega)
    have l2 := vput_len (n := yv.size + 1) (by omega)
    have l3 := bsz3 yk
    have l4 := bsz3 yv
    have hv1 : ((yv.size : Int) + 1).toNat = yv.size + 1 := by omega
    cases yg with
    | true =>
      rw [textF_t] at H'
      refine loopV ?_
      have hz : True := trivial
      have hy := yieldedV_eq
      have hL := And.intro @hget (@hv1)
      repeat' (first | (refine WPV.seqK ?_; intro N hN) | refine gA ?_ | (refine gR (M := noM) ?_; intro N hN ops hy) | (refine gD (M := noM) ?_; intro N hN; have hy := yieldedV_eq) | (refine WPV.condK ?_; intro A hA B hB) | (refine here ?_; refine sS ?_) | refine Both.mk ?_ ?_ | ((with_reducible refine CallO.gd 83 ?_); first | refine CallO.toB Tryd.call83 (rnum_s (yk.size : Int) (by omega) (by omega) _) ?_ | refine CallO.toB Tryd.call83 (rnum_s ((yv.size : Int) + 1) (by omega) (by omega) _) ?_) | ((with_reducible refine CallP.gd 83 ?_); first | refine CallP.toB Tryd.call83 (rnum_s (yk.size : Int) (by omega) (by omega) _) ?_ | refine CallP.toB Tryd.call83 (rnum_s ((yv.size : Int) + 1) (by omega) (by omega) _) ?_) | (refine hN _ ?_; try clear hN N; try clear hy ops) | (refine hA ?_; clear hA A hB B; try simp only [hz]) | (refine hB ?_; clear hA A hB B; try simp only [hz]) | (refine gG ?_ ?_ <;> (intro hz; have h := nm hz; try (exfalso; omega)) <;> (have hz := nz hz; try subst hz)) | (rw [if_pos (show _ ∧ _ from ⟨by omega, by omega⟩)]; refine sS ?_) | refine gT ?_ | (clear hN N))
      have hL := (@List.append_assoc UInt8)
      all_goals (exact rndZ (Desc.re [some 0, some 5] rfl) (H'))
    | false =>
      rw [textF_f] at H'
      refine loopV ?_
      have hz : True := trivial
      have hy := yieldedV_eq
      have hL := And.intro @hget (@hv1)
      repeat' (first | (refine WPV.seqK ?_; intro N hN) | refine gA ?_ | (refine gR (M := noM) ?_; intro N hN ops hy) | (refine gD (M := noM) ?_; intro N hN; have hy := yieldedV_eq) | (refine WPV.condK ?_; intro A hA B hB) | (refine here ?_; refine sS ?_) | refine Both.mk ?_ ?_ | ((with_reducible refine CallO.gd 83 ?_); first | refine CallO.toB Tryd.call83 (rnum_s (yk.size : Int) (by omega) (by omega) _) ?_ | refine CallO.toB Tryd.call83 (rnum_s ((yv.size : Int) + 1) (by omega) (by omega) _) ?_) | ((with_reducible refine CallP.gd 83 ?_); first | refine CallP.toB Tryd.call83 (rnum_s (yk.size : Int) (by omega) (by omega) _) ?_ | refine CallP.toB Tryd.call83 (rnum_s ((yv.size : Int) + 1) (by omega) (by omega) _) ?_) | (refine hN _ ?_; try clear hN N; try clear hy ops) | (refine hA ?_; clear hA A hB B; try simp only [hz]) | (refine hB ?_; clear hA A hB B; try simp only [hz]) | (refine gG ?_ ?_ <;> (intro hz; have h := nm hz; try (exfalso; omega)) <;> (have hz := nz hz; try subst hz)) | (rw [if_pos (show _ ∧ _ from ⟨by omega, by omega⟩)]; refine sS ?_) | refine gT ?_ | (clear hN N))
      have hL := (@List.append_assoc UInt8)
      all_goals (exact rndZ (Desc.re [some 0, some 6] rfl) (H'))
  obtain rfl : i = w.length := by omega
  rw [List.drop_length, List.flatMap_nil, List.append_nil] at j2
  rw [j2] at hQ
  clear H
  refine loopV ?_
  have hz : True := trivial
  have hy := yieldedV_eq
  have hL := True.intro
  repeat' (first | (refine WPV.seqK ?_; intro N hN) | refine gA ?_ | (refine gR (M := noM) ?_; intro N hN ops hy) | (refine gD (M := noM) ?_; intro N hN; have hy := yieldedV_eq) | (refine WPV.condK ?_; intro A hA B hB) | (refine here ?_; refine sS ?_) | refine Both.mk ?_ ?_ | (refine hN _ ?_; try clear hN N; try clear hy ops) | (refine hA ?_; clear hA A hB B; try simp only [hz]) | (refine hB ?_; clear hA A hB B; try simp only [hz]) | (refine gG ?_ ?_ <;> (intro hz; have h := nm hz; try (exfalso; omega)) <;> (have hz := nz hz; try subst hz)) | (rw [if_pos (show _ ∧ _ from ⟨by omega, by omega⟩)]; refine sS ?_) | refine gT ?_ | (clear hN N))
  all_goals (first | exact retZ hQ Tryd.results45 (Desc.re [] rfl) | exact retZN hQ Tryd.results45 (Desc.re [] rfl))
set_option maxRecDepth 100000 in
set_option maxHeartbeats 4000000 in
theorem rbytes_7 (x : It) (hc : checkI x = 0) (hd : x.d = 7) : rbytesP K x := by
  obtain ⟨⟨d0, d1⟩, ⟨o0, o1, o2⟩, ⟨n0, n1, n2⟩, ⟨a0, a1, a2⟩, m2, hr, k2, hw, w2, kl, k3, k4⟩ := checkI_ok hc
  have cw := fun h => rwho_s (K := K) x ⟨d0, d1⟩ h
  have cn := fun h => rnumber_s (K := K) x ⟨d0, d1⟩ h
  have l1 := vput_len (n := x.o.toNat) (by omega)
  have l2 := vput_len (n := x.k.length) (by omega)
  have l0 := vput_len (n := 7) (by omega)
  have hb : bytesI x = vput 7 ++ vput x.o.toNat ++ vput x.k.length ++ x.k.flatMap fun n => vput n.toNat := by
    rw [bytesI_eq, hd]; simp
  unfold rbytesP
  rw [hb]
  clear hb hc hw hr k2
  obtain ⟨d, o, n, a, m, ⟨cx, cy, cz⟩, w, k⟩ := x
  dsimp only at *
  subst hd
  refine Sp.of_bodyE Tryd.func45 rfl ?_
  intro Q hQ
  simp only [List.replicate, List.length_cons, List.length_nil, Tryd.ntmps45, Nat.reduceAdd, Nat.reduceSub, List.cons_append, List.nil_append, go_sem]
  have hz : True := trivial
  have hy := yieldedV_eq
  have hL := True.intro
  repeat' (first | (refine WPV.seqK ?_; intro N hN) | refine gA ?_ | (refine gR (M := noM) ?_; intro N hN ops hy) | (refine gD (M := noM) ?_; intro N hN; have hy := yieldedV_eq) | (refine WPV.condK ?_; intro A hA B hB) | (refine here ?_; refine sS ?_) | refine Both.mk ?_ ?_ | ((with_reducible refine CallO.gd 83 ?_); first | refine CallO.frB [] Tryd.call83 (rnumO_s 7 (by omega) (by omega)) ?_ | refine CallO.toB Tryd.call83 (rnum_s o (by omega) (by omega) _) ?_ | refine CallO.toB Tryd.call83 (rnum_s (k.length : Int) (by omega) (by omega) _) ?_) | ((with_reducible refine CallO.gd 57 ?_); refine CallO.toB Tryd.call57 (cw _) ?_) | ((with_reducible refine CallO.gd 58 ?_); refine CallO.toB Tryd.call58 (cn _) ?_) | ((with_reducible refine CallP.gd 83 ?_); first | refine CallP.toB Tryd.call83 (rnum_s o (by omega) (by omega) _) ?_ | refine CallP.toB Tryd.call83 (rnum_s (k.length : Int) (by omega) (by omega) _) ?_) | ((with_reducible refine CallP.gd 57 ?_); refine CallP.toB Tryd.call57 (cw _) ?_) | ((with_reducible refine CallP.gd 58 ?_); refine CallP.toB Tryd.call58 (cn _) ?_) | (refine hN _ ?_; try clear hN N; try clear hy ops) | (refine hA ?_; clear hA A hB B; try simp only [hz]) | (refine hB ?_; clear hA A hB B; try simp only [hz]) | (refine gG ?_ ?_ <;> (intro hz; have h := nm hz; try (exfalso; omega)) <;> (have hz := nz hz; try subst hz)) | (rw [if_pos (show _ ∧ _ from ⟨by omega, by omega⟩)]; refine sS ?_) | refine gT ?_ | (clear hN N))
  generalize hhd : vput 7 ++ vput o.toNat ++ vput k.length = hd at *
  have lhd : hd.length ≤ 80 := by rw [← hhd]; simp only [List.length_append]; omega
  clear hhd cw cn
  refine WPV.loopW (α := Nat × List UInt8) (fun q => k.length - q.1) (fun q => ⟨[.any, .ptr 0 0, .any, .own 1 (bs q.2) 1, .any, .any, .any, .any, .sc (.int .i64 ((q.1 : Nat) : Int)), .any, .any, .any, .any, .any, .any, .any, .any, .any, .any, .any, .any, .any, .any, .any, .any, .any, .any, .any, .any, .any, .any, .any, .any, .any, .any, .any, .any, .any, .any, .any, .any, .any, .any, .any, .any, .any, .any, .any, .any, .any, .any, .any, .any, .any, .any, .any, .any, .any, .any, .any, .any, .any, .any, .any, .any, .any, .any, .any, .any, .any, .any, .any, .any, .any, .any, .any, .any, .any, .any, .any, .any, .any, .any, .any, .any, .any, .any, .any, .any, .any, .any, .any, .any, .any, .any, .any, .any, .any, .any, .any, .any, .any, .any, .any, .any, .any, .any, .any, .any, .any, .any, .any, .any, .any, .any, .any, .any, .any, .any, .any], [.cells (itL ⟨7, o, n, a, m, ⟨cx, cy, cz⟩, w, k⟩), .tail]⟩) (fun q => q.1 ≤ k.length ∧ (hd ++ k.flatMap fun n => vput n.toNat) = q.2 ++ (k.drop q.1).flatMap (fun n => vput n.toNat) ∧ q.2.length ≤ 120 + 10 * q.1) (0, hd) ((Desc.re [some 0, some 3] rfl).trans Desc.weakA) ⟨Nat.zero_le _, rfl, by dsimp only; omega⟩ (fun q hJ H => ?_)
  obtain ⟨i, b⟩ := q
  dsimp only at hJ H ⊢
  obtain ⟨i1, i2, i3⟩ := hJ
  by_cases h : i < k.length
  · obtain ⟨y, hg⟩ : ∃ y, k[i] = y := ⟨_, rfl⟩
    have hget : k[i]? = some y := by rw [← hg]; exact List.getElem?_eq_getElem h
    rw [List.drop_eq_getElem_cons h, hg, List.flatMap_cons, ← List.append_assoc] at i2
    obtain ⟨g1, g2⟩ := k4 y (hg ▸ List.getElem_mem h)
    have lv := vput_len (n := y.toNat) (by omega)
    have H' := H (i + 1, b ++ vput y.toNat) ⟨h, i2, by dsimp only; rw [List.length_append]; omega⟩ (by dsimp only; omega)
    clear H hg
    dsimp only at H'
    refine loopV ?_
    have hz : True := trivial
    have hy := yieldedV_eq
    have hL := @hget
    repeat' (first | (refine WPV.seqK ?_; intro N hN) | refine gA ?_ | (refine gR (M := noM) ?_; intro N hN ops hy) | (refine gD (M := noM) ?_; intro N hN; have hy := yieldedV_eq) | (refine WPV.condK ?_; intro A hA B hB) | (refine here ?_; refine sS ?_) | refine Both.mk ?_ ?_ | ((with_reducible refine CallO.gd 83 ?_); refine CallO.toB Tryd.call83 (rnum_s y (by omega) (by omega) _) ?_) | ((with_reducible refine CallP.gd 83 ?_); refine CallP.toB Tryd.call83 (rnum_s y (by omega) (by omega) _) ?_) | (refine hN _ ?_; try clear hN N; try clear hy ops) | (refine hA ?_; clear hA A hB B; try simp only [hz]) | (refine hB ?_; clear hA A hB B; try simp only [hz]) | (refine gG ?_ ?_ <;> (intro hz; have h := nm hz; try (exfalso; omega)) <;> (have hz := nz hz; try subst hz)) | (rw [if_pos (show _ ∧ _ from ⟨by omega, by omega⟩)]; refine sS ?_) | refine gT ?_ | (clear hN N))
    all_goals (exact rndZ (Desc.re [some 0, some 2] rfl) (H'))
  obtain rfl : i = k.length := by omega
  rw [List.drop_length, List.flatMap_nil, List.append_nil] at i2
  rw [i2] at hQ
  clear H
  refine loopV ?_
  have hz : True := trivial
  have hy := yieldedV_eq
  have hL := True.intro
  repeat' (first | (refine WPV.seqK ?_; intro N hN) | refine gA ?_ | (refine gR (M := noM) ?_; intro N hN ops hy) | (refine gD (M := noM) ?_; intro N hN; have hy := yieldedV_eq) | (refine WPV.condK ?_; intro A hA B hB) | (refine here ?_; refine sS ?_) | refine Both.mk ?_ ?_ | (refine hN _ ?_; try clear hN N; try clear hy ops) | (refine hA ?_; clear hA A hB B; try simp only [hz]) | (refine hB ?_; clear hA A hB B; try simp only [hz]) | (refine gG ?_ ?_ <;> (intro hz; have h := nm hz; try (exfalso; omega)) <;> (have hz := nz hz; try subst hz)) | (rw [if_pos (show _ ∧ _ from ⟨by omega, by omega⟩)]; refine sS ?_) | refine gT ?_ | (clear hN N))
  all_goals (first | exact retZ hQ Tryd.results45 (Desc.re [] rfl) | exact retZN hQ Tryd.results45 (Desc.re [] rfl))
set_option maxRecDepth 100000 in
set_option maxHeartbeats 4000000 in
theorem rbytes_o (x : It) (hc : checkI x = 0) (hm : ItM x) (h0 : x.d ≠ 0) (h7 : x.d ≠ 7) : rbytesP K x := by
  obtain ⟨⟨d0, d1⟩, ⟨o0, o1, o2⟩, ⟨n0, n1, n2⟩, ⟨a0, a1, a2⟩, m2, hr, k2, hw, w2, kl, k3, k4⟩ := checkI_ok hc
  obtain ⟨m0, m1⟩ := hm
  have cw := fun h => rwho_s (K := K) x ⟨d0, d1⟩ h
  have cn := fun h => rnumber_s (K := K) x ⟨d0, d1⟩ h
  have c0 := rnumO_s (K := K) x.d (by omega) (by omega)
  have l1 := vput_len (n := x.o.toNat) (by omega)
  have l2 := vput_len (n := x.n.toNat) (by omega)
  have l3 := vput_len (n := x.a.toNat) (by omega)
  have l4 := vput_len (n := x.m.toNat) (by omega)
  have l0 := vput_len (n := x.d.toNat) (by omega)
  obtain ⟨b0, hb0⟩ : ∃ b, vput x.d.toNat = b := ⟨_, rfl⟩
  obtain ⟨bo, hbo⟩ : ∃ b, (if x.d < 3 ∨ x.d = 7 ∨ x.d = 8 then vput x.o.toNat else []) = b := ⟨_, rfl⟩
  obtain ⟨bn, hbn⟩ : ∃ b, (if 3 ≤ x.d ∧ x.d ≤ 6 ∨ x.d = 8 then vput x.n.toNat else []) = b := ⟨_, rfl⟩
  have hb : bytesI x = b0 ++ bo ++ bn ++ (if x.d = 6 then vput x.a.toNat ++ vput x.m.toNat else []) := by
    rw [bytesI_eq, hb0, hbo, hbn]
    simp only [if_neg h0, if_neg h7]
    split <;> simp
  have vo : x.d < 3 ∨ x.d = 7 ∨ x.d = 8 → vput x.o.toNat = bo := fun h => by rw [← hbo, if_pos h]
  have vo' : ¬ (x.d < 3 ∨ x.d = 7 ∨ x.d = 8) → bo = [] := fun h => by rw [← hbo, if_neg h]
  have vn : 3 ≤ x.d ∧ x.d ≤ 6 ∨ x.d = 8 → vput x.n.toNat = bn := fun h => by rw [← hbn, if_pos h]
  have vn' : ¬ (3 ≤ x.d ∧ x.d ≤ 6 ∨ x.d = 8) → bn = [] := fun h => by rw [← hbn, if_neg h]
  have lo : bo.length ≤ 10 := by
    rw [← hbo]
    split
    · exact l1
    · simp
  have ln : bn.length ≤ 10 := by
    rw [← hbn]
    split
    · exact l2
    · simp
  unfold rbytesP
  rw [hb]
  rw [hb0] at c0 l0
  clear hb hc hw hr k2 hb0 hbo hbn
  obtain ⟨d, o, n, a, m, ⟨cx, cy, cz⟩, w, k⟩ := x
  dsimp only at *
  by_cases h6 : d = 6
  · have e : b0 ++ bo ++ bn ++ (if d = 6 then vput a.toNat ++ vput m.toNat else []) = b0 ++ bn ++ vput a.toNat ++ vput m.toNat := by
      rw [if_pos h6, vo' (by omega)]; simp
    rw [e]
    refine Sp.of_bodyE Tryd.func45 rfl ?_
    intro Q hQ
    simp only [List.replicate, List.length_cons, List.length_nil, Tryd.ntmps45, Nat.reduceAdd, Nat.reduceSub, List.cons_append, List.nil_append, go_sem]
    have hz : True := trivial
    have hy := yieldedV_eq
    have hL := And.intro @vo (And.intro @vo' (And.intro @vn (@vn')))
    repeat' (first | ((with_reducible refine WPV.seqJB 2 ⟨[.any, .ptr 0 0, .sc (.slice none 0 0), .own 1 (bs (b0 ++ bo)) 1, .any, .any, .any, .any, .any, .any, .any, .any, .any, .any, .any, .any, .any, .any, .any, .any, .any, .any, .any, .any, .any, .any, .any, .any, .any, .any, .any, .any, .any, .any, .any, .any, .any, .any, .any, .any, .any, .any, .any, .any, .any, .any, .any, .any, .any, .any, .any, .any, .any, .any, .any, .any, .any, .any, .any, .any, .any, .any, .any, .any, .any, .any, .any, .any, .any, .any, .any, .any, .any, .any, .any, .any, .any, .any, .any, .any, .any, .any, .any, .any, .any, .any, .any, .any, .any, .any, .any, .any, .any, .any, .any, .any, .any, .any, .any, .any, .any, .any, .any, .any, .any, .any, .any, .any, .any, .any, .any, .any, .any, .any, .any, .any, .any, .any, .any, .any], [.cells (itL ⟨d, o, n, a, m, ⟨cx, cy, cz⟩, w, k⟩), .tail]⟩  ?_ ?_); intro N hN) | ((with_reducible refine WPV.seqJB 4 ⟨[.any, .ptr 0 0, .sc (.slice none 0 0), .own 1 (bs (b0 ++ bo ++ bn)) 1, .any, .any, .any, .any, .any, .any, .any, .any, .any, .any, .any, .any, .any, .any, .any, .any, .any, .any, .any, .any, .any, .any, .any, .any, .any, .any, .any, .any, .any, .any, .any, .any, .any, .any, .any, .any, .any, .any, .any, .any, .any, .any, .any, .any, .any, .any, .any, .any, .any, .any, .any, .any, .any, .any, .any, .any, .any, .any, .any, .any, .any, .any, .any, .any, .any, .any, .any, .any, .any, .any, .any, .any, .any, .any, .any, .any, .any, .any, .any, .any, .any, .any, .any, .any, .any, .any, .any, .any, .any, .any, .any, .any, .any, .any, .any, .any, .any, .any, .any, .any, .any, .any, .any, .any, .any, .any, .any, .any, .any, .any, .any, .any, .any, .any, .any, .any], [.cells (itL ⟨d, o, n, a, m, ⟨cx, cy, cz⟩, w, k⟩), .tail]⟩  ?_ ?_); intro N hN) | exact (Desc.re [some 0, some 1] rfl).trans jnR | exact (Desc.re [some 0, some 2] rfl).trans jnR | (refine WPV.seqK ?_; intro N hN) | refine gA ?_ | (refine gR (M := noM) ?_; intro N hN ops hy) | (refine gD (M := noM) ?_; intro N hN; have hy := yieldedV_eq) | (refine WPV.condK ?_; intro A hA B hB) | (refine here ?_; refine sS ?_) | refine Both.mk ?_ ?_ | ((with_reducible refine CallO.gd 83 ?_); first | refine CallO.frB [] Tryd.call83 (c0) ?_ | refine CallO.toB Tryd.call83 (rnum_s o (by omega) (by omega) _) ?_ | refine CallO.toB Tryd.call83 (rnum_s n (by omega) (by omega) _) ?_ | refine CallO.toB Tryd.call83 (rnum_s a (by omega) (by omega) _) ?_ | refine CallO.toB Tryd.call83 (rnum_s m (by omega) (by omega) _) ?_) | ((with_reducible refine CallO.gd 57 ?_); refine CallO.toB Tryd.call57 (cw _) ?_) | ((with_reducible refine CallO.gd 58 ?_); refine CallO.toB Tryd.call58 (cn _) ?_) | ((with_reducible refine CallP.gd 83 ?_); first | refine CallP.toB Tryd.call83 (rnum_s o (by omega) (by omega) _) ?_ | refine CallP.toB Tryd.call83 (rnum_s n (by omega) (by omega) _) ?_ | refine CallP.toB Tryd.call83 (rnum_s a (by omega) (by omega) _) ?_ | refine CallP.toB Tryd.call83 (rnum_s m (by omega) (by omega) _) ?_) | ((with_reducible refine CallP.gd 57 ?_); refine CallP.toB Tryd.call57 (cw _) ?_) | ((with_reducible refine CallP.gd 58 ?_); refine CallP.toB Tryd.call58 (cn _) ?_) | (refine hN _ ?_; try clear hN N; try clear hy ops) | (refine hA ?_; clear hA A hB B; try simp only [hz]) | (refine hB ?_; clear hA A hB B; try simp only [hz]) | (refine gG ?_ ?_ <;> (intro hz; have h := nm hz; try (exfalso; omega)) <;> (have hz := nz hz; try subst hz)) | (rw [if_pos (show _ ∧ _ from ⟨by omega, by omega⟩)]; refine sS ?_) | refine gT ?_ | (clear hN N))
    all_goals (first | exact retZ hQ Tryd.results45 (Desc.re [] rfl) | exact retZN hQ Tryd.results45 (Desc.re [] rfl))
  · have e : b0 ++ bo ++ bn ++ (if d = 6 then vput a.toNat ++ vput m.toNat else []) = b0 ++ bo ++ bn := by
      rw [if_neg h6]; simp
    rw [e]
    refine Sp.of_bodyE Tryd.func45 rfl ?_
    intro Q hQ
    simp only [List.replicate, List.length_cons, List.length_nil, Tryd.ntmps45, Nat.reduceAdd, Nat.reduceSub, List.cons_append, List.nil_append, go_sem]
    have hz : True := trivial
    have hy := yieldedV_eq
    have hL := And.intro @vo (And.intro @vo' (And.intro @vn (@vn')))
    repeat' (first | ((with_reducible refine WPV.seqJB 2 ⟨[.any, .ptr 0 0, .sc (.slice none 0 0), .own 1 (bs (b0 ++ bo)) 1, .any, .any, .any, .any, .any, .any, .any, .any, .any, .any, .any, .any, .any, .any, .any, .any, .any, .any, .any, .any, .any, .any, .any, .any, .any, .any, .any, .any, .any, .any, .any, .any, .any, .any, .any, .any, .any, .any, .any, .any, .any, .any, .any, .any, .any, .any, .any, .any, .any, .any, .any, .any, .any, .any, .any, .any, .any, .any, .any, .any, .any, .any, .any, .any, .any, .any, .any, .any, .any, .any, .any, .any, .any, .any, .any, .any, .any, .any, .any, .any, .any, .any, .any, .any, .any, .any, .any, .any, .any, .any, .any, .any, .any, .any, .any, .any, .any, .any, .any, .any, .any, .any, .any, .any, .any, .any, .any, .any, .any, .any, .any, .any, .any, .any, .any, .any], [.cells (itL ⟨d, o, n, a, m, ⟨cx, cy, cz⟩, w, k⟩), .tail]⟩  ?_ ?_); intro N hN) | ((with_reducible refine WPV.seqJB 4 ⟨[.any, .ptr 0 0, .sc (.slice none 0 0), .own 1 (bs (b0 ++ bo ++ bn)) 1, .any, .any, .any, .any, .any, .any, .any, .any, .any, .any, .any, .any, .any, .any, .any, .any, .any, .any, .any, .any, .any, .any, .any, .any, .any, .any, .any, .any, .any, .any, .any, .any, .any, .any, .any, .any, .any, .any, .any, .any, .any, .any, .any, .any, .any, .any, .any, .any, .any, .any, .any, .any, .any, .any, .any, .any, .any, .any, .any, .any, .any, .any, .any, .any, .any, .any, .any, .any, .any, .any, .any, .any, .any, .any, .any, .any, .any, .any, .any, .any, .any, .any, .any, .any, .any, .any, .any, .any, .any, .any, .any, .any, .any, .any, .any, .any, .any, .any, .any, .any, .any, .any, .any, .any, .any, .any, .any, .any, .any, .any, .any, .any, .any, .any, .any, .any], [.cells (itL ⟨d, o, n, a, m, ⟨cx, cy, cz⟩, w, k⟩), .tail]⟩  ?_ ?_); intro N hN) | exact (Desc.re [some 0, some 1] rfl).trans jnR | exact (Desc.re [some 0, some 2] rfl).trans jnR | (refine WPV.seqK ?_; intro N hN) | refine gA ?_ | (refine gR (M := noM) ?_; intro N hN ops hy) | (refine gD (M := noM) ?_; intro N hN; have hy := yieldedV_eq) | (refine WPV.condK ?_; intro A hA B hB) | (refine here ?_; refine sS ?_) | refine Both.mk ?_ ?_ | ((with_reducible refine CallO.gd 83 ?_); first | refine CallO.frB [] Tryd.call83 (c0) ?_ | refine CallO.toB Tryd.call83 (rnum_s o (by omega) (by omega) _) ?_ | refine CallO.toB Tryd.call83 (rnum_s n (by omega) (by omega) _) ?_ | refine CallO.toB Tryd.call83 (rnum_s a (by omega) (by omega) _) ?_ | refine CallO.toB Tryd.call83 (rnum_s m (by omega) (by omega) _) ?_) | ((with_reducible refine CallO.gd 57 ?_); refine CallO.toB Tryd.call57 (cw _) ?_) | ((with_reducible refine CallO.gd 58 ?_); refine CallO.toB Tryd.call58 (cn _) ?_) | ((with_reducible refine CallP.gd 83 ?_); first | refine CallP.toB Tryd.call83 (rnum_s o (by omega) (by omega) _) ?_ | refine CallP.toB Tryd.call83 (rnum_s n (by omega) (by omega) _) ?_ | refine CallP.toB Tryd.call83 (rnum_s a (by omega) (by omega) _) ?_ | refine CallP.toB Tryd.call83 (rnum_s m (by omega) (by omega) _) ?_) | ((with_reducible refine CallP.gd 57 ?_); refine CallP.toB Tryd.call57 (cw _) ?_) | ((with_reducible refine CallP.gd 58 ?_); refine CallP.toB Tryd.call58 (cn _) ?_) | (refine hN _ ?_; try clear hN N; try clear hy ops) | (refine hA ?_; clear hA A hB B; try simp only [hz]) | (refine hB ?_; clear hA A hB B; try simp only [hz]) | (refine gG ?_ ?_ <;> (intro hz; have h := nm hz; try (exfalso; omega)) <;> (have hz := nz hz; try subst hz)) | (rw [if_pos (show _ ∧ _ from ⟨by omega, by omega⟩)]; refine sS ?_) | refine gT ?_ | (clear hN N))
    all_goals (first | exact retZ hQ Tryd.results45 (Desc.re [] rfl) | exact retZN hQ Tryd.results45 (Desc.re [] rfl))
theorem rbytes_s (x : It) (hc : checkI x = 0) (hm : ItM x) : Sp Tryd.prog K 45 [itV x] [] fun u hh => u = .sl 1 (bs (bytesI x)) ∧ hh = [] := by
  by_cases h0 : x.d = 0
  · exact rbytes_0 x hc h0
  by_cases h7 : x.d = 7
  · exact rbytes_7 x hc h7
  exact rbytes_o x hc hm h0 h7
end Go.Proofs.YtgfnpcmehnjopaaDoor
