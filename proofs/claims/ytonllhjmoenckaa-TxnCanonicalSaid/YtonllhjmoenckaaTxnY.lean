/- Walks: TxnDoes. -/
import Derived.Test.YtonllhjmoenckaaTxnW
import Derived.Test.YtonllhjmoenckaaTxnL
namespace Go.Proofs.Ytonllhjmoenckaa
open Go Go.RowKit
set_option linter.unusedVariables false
set_option linter.unusedSimpArgs false
variable {K : Nat → Obj → Prop}
theorem Rel.rok {d : Di} {r : Rdi} {n : Nat} (h : Rel d r n) (hn : n ≤ 900000) : r.ks.length ≤ 8 ∧ r.ws.length = r.ks.length ∧ (0 ≤ r.now ∧ r.now ≤ 900000) := by
  obtain ⟨a, b, c⟩ := h.len
  have := h.now
  exact ⟨a, b, c, by omega⟩
/-- The document's Put, beside the coder's. -/
theorem rput_e {x : Cod Di} {y : Cod Rdi} {n : Nat} (h : CRel x y n) (hn : n ≤ 900000) (t : Tx) (hl : t.w.length ≤ 9223372036854775807) : ∃ (b : List UInt8) (e : Int) (x' : Cod Di) (r' : Rdi) (m : Nat), tputF dpF x t = ((b, e), x') ∧ CRel x' ⟨x'.c, r'⟩ m ∧ m ≤ n + 16 ∧
    Sp Try.prog K 55 [.ptr 0 0, txV t] [y.d.ob3 x.c] fun u hh => u = .tup [.sl 1 (bs b), .sc (.int .i64 e)] ∧ hh = [r'.ob3 x'.c] := by
  obtain ⟨h1, m, h2, h3⟩ := h.put t
  obtain ⟨a1, a2, a3⟩ := h.d.rok hn
  have := rput_x (K := K) y t a1 a2 a3 hl
  rw [h1] at this
  have hc := h3.c
  obtain ⟨c', r'⟩ : ∃ q, q = (tputF rpF y t).2 := ⟨_, rfl⟩
  obtain ⟨yc, yd⟩ := y
  have hy := h.c
  dsimp only at hy
  subst hy
  refine ⟨(tputF dpF x t).1.1, (tputF dpF x t).1.2, (tputF dpF x t).2, (tputF rpF ⟨x.c, yd⟩ t).2.d, m, rfl, ?_, h2, ?_⟩
  · rw [← hc]; exact h3
  · rw [← hc]; exact this
theorem ttake_w {x x' : Cod Di} {b : List UInt8} {t : Tx} {n : Nat} {e : Int} (ok : x.d.Ok) (hr : rightF x.c = true) (h : ttakeF dtF x b = ((t, n, e), x')) : t.w.length ≤ 16 := by
  by_cases he : e = 0
  · subst he
    exact (check_ok (put_take_t ok hr h).2.2.2.1).2.2.2.1
  · have := ttake_err (x := x) (b := b) (e := e) (by rw [h]) he
    rw [h] at this
    simp only [Prod.mk.injEq] at this
    rw [this.1.1]; exact Nat.zero_le _
theorem rtake_e {x : Cod Di} {y : Cod Rdi} {n : Nat} (h : CRel x y n) (hn : n ≤ 900000) (b : List UInt8) (hl : b.length ≤ 1000000) : ∃ (t : Tx) (k : Nat) (e : Int) (x' : Cod Di) (r' : Rdi) (m : Nat), ttakeF dtF x b = ((t, k, e), x') ∧ t.w.length ≤ 16 ∧ CRel x' ⟨x'.c, r'⟩ m ∧ m ≤ n + 16 ∧
    Sp Try.prog K 56 [.ptr 0 0, .sl 1 (bs b)] [y.d.ob3 x.c] fun u hh => u = ttV (t, k, e) ∧ hh = [r'.ob3 x'.c] := by
  obtain ⟨h1, h2⟩ := h.take b
  obtain ⟨a1, a2, a3⟩ := h.d.rok hn
  obtain ⟨yc, yd⟩ := y
  have hy := h.c
  dsimp only at hy
  subst hy
  obtain ⟨t, k, e, y', hh⟩ : ∃ t k e y', rtakeF ⟨x.c, yd⟩ b = ((t, k, e), y') := ⟨_, _, _, _, rfl⟩
  have hs := rTake_x (K := K) ⟨x.c, yd⟩ b hl a1 a2 a3 hh
  rw [hh] at h1 h2
  dsimp only at h1 h2
  by_cases he : e = 0
  · subst he
    obtain ⟨g1, m, g2, g3⟩ := h2 rfl
    simp only [ne_eq, not_true_eq_false, if_false] at hs
    have hx : ttakeF dtF x b = ((t, k, 0), (ttakeF dtF x b).2) := Prod.ext g1 rfl
    have hc := g3.c
    refine ⟨t, k, 0, _, y'.d, m, hx, ttake_w h.d.ok h.r hx, ?_, g2, ?_⟩
    · rw [← hc]; exact g3
    · rw [← hc]; exact hs
  · have hx := h1 he
    simp only [ne_eq, he, not_false_eq_true, if_true] at hs
    exact ⟨_, _, _, _, yd, n, hx, Nat.zero_le _, h, by omega, hs⟩
theorem tact_ok {l : List Tact} (hg : tlarge l = false) {k : Nat} {a : Tact} (h : l[k]? = some a) : l.length ≤ 30 ∧ a.t.w.length ≤ 40 ∧ a.b.length ≤ 9000 := by
  unfold tlarge at hg
  simp only [Bool.or_eq_false_iff, decide_eq_false_iff_not] at hg
  have := List.any_eq_false.1 hg.2 a (List.mem_iff_getElem?.2 ⟨k, h⟩)
  unfold Tact.big Tx.big at this
  simp at this
  omega
theorem CRel.nw : CRel Cod.new ⟨⟨0, 0, 0⟩, ⟨[], [], 0⟩⟩ 0 := ⟨rfl, by decide, .nw⟩
set_option maxRecDepth 100000 in
set_option maxHeartbeats 4000000 in
theorem txndoes_s (aw : Sp Try.prog K 46 [] [] fun u hh => u = .sc (.bool true) ∧ hh = []) (l : List Tact) (hl : l.length ≤ 9223372036854775807) : Sp Try.prog K 12 [.sl 8 (tacts l)] [] fun u hh => u = .sc (.bool true) ∧ hh = [] := by
  by_cases hg : tlarge l = true
  · skip
    refine Sp.of_bodyE Try.func12 rfl ?_
    intro Q hQ
    simp only [List.replicate, List.length_cons, List.length_nil, Try.ntmps12, Nat.reduceAdd, Nat.reduceSub, List.cons_append, List.nil_append, go_sem]
    have hz : True := trivial
    have hy := yieldedV_eq
    have hL := @hg
    repeat' (first | (refine WPV.seqK ?_; intro N hN) | refine WPV.block ?_ | refine WPV.scope ?_ | refine WPV.skip ?_ | refine WPV.label ?_ | refine WPV.exit ?_ | refine WPV.ret ?_ | (refine WPV.regionG (M := noM) ?_; intro N hN ops hy; (try simp only [List.append] at hy ⊢); (try simp only [List.map_cons, List.map_nil] at hy)) | (refine WPV.drawK (M := noM) (by kernel_rfl) (by kernel_rfl) ?_; intro N hN; have hy := yieldedV_eq) | (refine WPV.condK ?_; intro A hA B hB) | (refine here ?_; refine sS ?_) | (refine And.intro (by kernel_rfl : okOrd _ _ = true) ?_) | refine Both.mk ?_ ?_ | ((with_reducible refine CallO.gd 46 ?_); refine CallO.frB [] Try.call46 (aw) ?_) | ((with_reducible refine CallO.gd 47 ?_); refine CallO.frB [] Try.call47 (tlarge_s l hl) ?_) | ((with_reducible refine CallO.gd 48 ?_); refine CallO.frB [] Try.call48 (cnew_s) ?_) | (refine hN _ ?_; try clear hN N; try clear hy ops) | (refine hA ?_; clear hA A hB B; try simp only [hz]) | (refine hB ?_; clear hA A hB B; try simp only [hz]) | ((first | refine guardO.mk ?_ ?_ | refine guardD.mk ?_ ?_ | refine Br.mk ?_ ?_) <;> (intro hz; have h := nm hz; try (exfalso; omega)) <;> (have hz := nz hz; try subst hz)) | (rw [if_pos (show _ ∧ _ from ⟨by omega, by omega⟩)]; refine sS ?_) | (simp only [thenV, blockV, if_true, if_false, Nat.reduceEqDiff, reduceCtorEq, imp_self]) | (clear hN N))
    all_goals (first | exact retZ hQ Try.results12 (Desc.re [] rfl) | exact retZN hQ Try.results12 (Desc.re [] rfl))
  · have hg : tlarge l = false := by simpa using hg
    refine Sp.of_bodyE Try.func12 rfl ?_
    intro Q hQ
    simp only [List.replicate, List.length_cons, List.length_nil, Try.ntmps12, Nat.reduceAdd, Nat.reduceSub, List.cons_append, List.nil_append, go_sem]
    have hz : True := trivial
    have hy := yieldedV_eq
    have hL := @hg
    repeat' (first | (refine WPV.seqK ?_; intro N hN) | refine WPV.block ?_ | refine WPV.scope ?_ | refine WPV.skip ?_ | refine WPV.label ?_ | refine WPV.exit ?_ | refine WPV.ret ?_ | (refine WPV.regionG (M := noM) ?_; intro N hN ops hy; (try simp only [List.append] at hy ⊢); (try simp only [List.map_cons, List.map_nil] at hy)) | (refine WPV.drawK (M := noM) (by kernel_rfl) (by kernel_rfl) ?_; intro N hN; have hy := yieldedV_eq) | (refine WPV.condK ?_; intro A hA B hB) | (refine here ?_; refine sS ?_) | (refine And.intro (by kernel_rfl : okOrd _ _ = true) ?_) | refine Both.mk ?_ ?_ | ((with_reducible refine CallO.gd 46 ?_); refine CallO.frB [] Try.call46 (aw) ?_) | ((with_reducible refine CallO.gd 47 ?_); refine CallO.frB [] Try.call47 (tlarge_s l hl) ?_) | ((with_reducible refine CallO.gd 48 ?_); refine CallO.frB [] Try.call48 (cnew_s) ?_) | (refine hN _ ?_; try clear hN N; try clear hy ops) | (refine hA ?_; clear hA A hB B; try simp only [hz]) | (refine hB ?_; clear hA A hB B; try simp only [hz]) | ((first | refine guardO.mk ?_ ?_ | refine guardD.mk ?_ ?_ | refine Br.mk ?_ ?_) <;> (intro hz; have h := nm hz; try (exfalso; omega)) <;> (have hz := nz hz; try subst hz)) | (rw [if_pos (show _ ∧ _ from ⟨by omega, by omega⟩)]; refine sS ?_) | (simp only [thenV, blockV, if_true, if_false, Nat.reduceEqDiff, reduceCtorEq, imp_self]) | (clear hN N))
    refine WPV.loopW (α := Nat × Nat × Cod Di × Rdi) (fun s => l.length - s.1) (fun s => ⟨[.sl 8 (tacts l), .any, .any, .ptr 0 0, .ptr 4 0, .any, .any, .any, .any, .any, .any, .any, .any, .any, .any, .any, .any, .any, .any, .any, .any, .any, .any, .any, .any, .any, .sl 8 (tacts l), .sc (.int .i64 (l.length : Int)), .sc (.int .i64 ((s.1 : Nat) : Int)), .any, .any, .any, .any, .any, .any, .any, .any, .any, .any, .any, .any, .any, .any, .any, .any, .any, .any, .any, .any, .any, .any, .any, .any, .any, .any, .any, .any, .any, .any, .any, .any, .any, .any, .any, .any, .any, .any, .any, .any, .any, .any, .any, .any, .any, .any, .any, .any, .any, .any, .any, .any, .any, .any, .any, .any, .any, .any, .any, .any, .any, .any, .any, .any, .any, .any, .any, .any, .any, .any, .any, .any, .any, .any, .any, .any, .any, .any, .any, .any, .any, .any, .any], [.cells [.ptr 1 0, .sc (.int .i64 s.2.2.1.c.x), .sc (.int .i64 s.2.2.1.c.y), .sc (.int .i64 s.2.2.1.c.z)], .cells [.hs true 1 2 0 s.2.2.1.d.ks.length, .mp 3, .sc (.int .i64 (s.2.2.1.d.e : Int))], .cells (kc s.2.2.1.d.ks), .map (pm s.2.2.1.d.c s.2.2.1.d.l), s.2.2.2.ob3 s.2.2.1.c]⟩) (fun s => s.1 ≤ l.length ∧ s.2.1 ≤ 16 * s.1 ∧ CRel s.2.2.1 ⟨s.2.2.1.c, s.2.2.2⟩ s.2.1) (0, 0, Cod.new, ⟨[], [], 0⟩) Desc.weakA ⟨Nat.zero_le _, Nat.le_refl _, CRel.nw⟩ (fun s hJ H => ?_)
    obtain ⟨k, n, x, r⟩ := s
    obtain ⟨hk0, hn, hR⟩ := hJ
    dsimp only at hk0 hn hR H ⊢
    by_cases h : k < l.length
    · obtain ⟨a, hg0⟩ : ∃ a, l[k] = a := ⟨_, rfl⟩
      have hget : l[k]? = some a := by rw [← hg0]; exact List.getElem?_eq_getElem h
      obtain ⟨b1, b2, b3⟩ := tact_ok hg hget
      have ck := tcheck_s (K := K) a.t (by omega)
      have rk := rtcheck_s (K := K) a.t (by omega)
      obtain ⟨aa, t, ab⟩ := a
      dsimp only at b2 b3 ck rk
      by_cases h0 : aa = 0
      · obtain ⟨b, e, x', r', m, p1, p2, p3, p4⟩ := rput_e (K := K) hR (by omega) t (by omega)
        have cp := cput_e (K := K) p1 hR.d.ok (by omega)
        have H' := H (k + 1, m, x', r') ⟨by dsimp only; omega, by dsimp only; omega, p2⟩ (by dsimp only; omega)
        clear H hg0
        dsimp only at H' p4
        subst h0
        obtain ⟨o, s, ⟨c1, c2, c3⟩, w⟩ := t
        dsimp only [txV] at ck rk cp p4
        refine loopV ?_
        have hz : True := trivial
        have hy := yieldedV_eq
        have hL := @hget
        repeat' (first | (refine WPV.seqK ?_; intro N hN) | refine WPV.block ?_ | refine WPV.scope ?_ | refine WPV.skip ?_ | refine WPV.label ?_ | refine WPV.exit ?_ | refine WPV.ret ?_ | (refine WPV.regionG (M := noM) ?_; intro N hN ops hy; (try simp only [List.append] at hy ⊢); (try simp only [List.map_cons, List.map_nil] at hy)) | (refine WPV.drawK (M := noM) (by kernel_rfl) (by kernel_rfl) ?_; intro N hN; have hy := yieldedV_eq) | (refine WPV.condK ?_; intro A hA B hB) | (refine here ?_; refine sS ?_) | (refine And.intro (by kernel_rfl : okOrd _ _ = true) ?_) | refine Both.mk ?_ ?_ | ((with_reducible refine CallO.gd 50 ?_); refine CallO.frB [] Try.call50 (ck) ?_) | ((with_reducible refine CallO.gd 54 ?_); refine CallO.frB [] Try.call54 (rk) ?_) | ((with_reducible refine CallO.gd 49 ?_); refine CallO.frB [0, 1, 2, 3] Try.call49 (cp) ?_) | ((with_reducible refine CallO.gd 55 ?_); refine CallO.frB [4] Try.call55 (p4) ?_) | ((with_reducible refine CallO.gd 37 ?_); refine CallO.toB Try.call37 (vsame_t b _) ?_) | ((with_reducible refine CallO.gd 53 ?_); refine CallO.frB [0, 1, 6, 7] Try.call53 (cclock_s x') ?_) | ((with_reducible refine CallP.gd 50 ?_); refine CallP.frB [] 0 Try.call50 (ck) ?_) | ((with_reducible refine CallP.gd 54 ?_); refine CallP.frB [] 0 Try.call54 (rk) ?_) | ((with_reducible refine CallP.gd 49 ?_); refine CallP.frB [0, 1, 2, 3] 2 Try.call49 (cp) ?_) | ((with_reducible refine CallP.gd 55 ?_); refine CallP.frB [4] 0 Try.call55 (p4) ?_) | ((with_reducible refine CallP.gd 37 ?_); refine CallP.toB Try.call37 (vsame_t b _) ?_) | ((with_reducible refine CallP.gd 53 ?_); refine CallP.frB [0, 1, 6, 7] 0 Try.call53 (cclock_s x') ?_) | (refine hN _ ?_; try clear hN N; try clear hy ops) | (refine hA ?_; clear hA A hB B; try simp only [hz]) | (refine hB ?_; clear hA A hB B; try simp only [hz]) | ((first | refine guardO.mk ?_ ?_ | refine guardD.mk ?_ ?_ | refine Br.mk ?_ ?_) <;> (intro hz; have h := nm hz; try (exfalso; omega)) <;> (have hz := nz hz; try subst hz)) | (rw [if_pos (show _ ∧ _ from ⟨by omega, by omega⟩)]; refine sS ?_) | (simp only [thenV, blockV, if_true, if_false, Nat.reduceEqDiff, reduceCtorEq, imp_self]) | (clear hN N))
        all_goals (exact rndZ (Desc.re [some 0, some 1, some 6, some 7, some 4] rfl) (H'))
      · by_cases h1 : aa = 1
        · obtain ⟨t2, kk, e, x', r', m, p1, p5, p2, p3, p4⟩ := rtake_e (K := K) hR (by omega) ab (by omega)
          have cp := ctake_e (K := K) p1 hR.d.ok (by omega)
          have st := rsame_t (K := K) t2 (by omega)
          have H' := H (k + 1, m, x', r') ⟨by dsimp only; omega, by dsimp only; omega, p2⟩ (by dsimp only; omega)
          clear H hg0
          dsimp only at H' p4
          subst h1
          obtain ⟨o, s, ⟨c1, c2, c3⟩, w⟩ := t
          obtain ⟨o2, s2, ⟨d1, d2, d3⟩, w2⟩ := t2
          dsimp only [txV] at ck rk cp p4 st
          refine loopV ?_
          have hz : True := trivial
          have hy := yieldedV_eq
          have hL := @hget
          repeat' (first | (refine WPV.seqK ?_; intro N hN) | refine WPV.block ?_ | refine WPV.scope ?_ | refine WPV.skip ?_ | refine WPV.label ?_ | refine WPV.exit ?_ | refine WPV.ret ?_ | (refine WPV.regionG (M := noM) ?_; intro N hN ops hy; (try simp only [List.append] at hy ⊢); (try simp only [List.map_cons, List.map_nil] at hy)) | (refine WPV.drawK (M := noM) (by kernel_rfl) (by kernel_rfl) ?_; intro N hN; have hy := yieldedV_eq) | (refine WPV.condK ?_; intro A hA B hB) | (refine here ?_; refine sS ?_) | (refine And.intro (by kernel_rfl : okOrd _ _ = true) ?_) | refine Both.mk ?_ ?_ | ((with_reducible refine CallO.gd 50 ?_); refine CallO.frB [] Try.call50 (ck) ?_) | ((with_reducible refine CallO.gd 54 ?_); refine CallO.frB [] Try.call54 (rk) ?_) | ((with_reducible refine CallO.gd 51 ?_); refine CallO.frB [0, 1, 2, 3] Try.call51 (cp) ?_) | ((with_reducible refine CallO.gd 56 ?_); refine CallO.frB [4] Try.call56 (p4) ?_) | ((with_reducible refine CallO.gd 52 ?_); refine CallO.frB [] Try.call52 (st) ?_) | ((with_reducible refine CallO.gd 53 ?_); refine CallO.frB [0, 6, 7, 8] Try.call53 (cclock_s x') ?_) | ((with_reducible refine CallP.gd 50 ?_); refine CallP.frB [] 0 Try.call50 (ck) ?_) | ((with_reducible refine CallP.gd 54 ?_); refine CallP.frB [] 0 Try.call54 (rk) ?_) | ((with_reducible refine CallP.gd 51 ?_); refine CallP.frB [0, 1, 2, 3] 3 Try.call51 (cp) ?_) | ((with_reducible refine CallP.gd 56 ?_); refine CallP.frB [4] 0 Try.call56 (p4) ?_) | ((with_reducible refine CallP.gd 52 ?_); refine CallP.frB [] 0 Try.call52 (st) ?_) | ((with_reducible refine CallP.gd 53 ?_); refine CallP.frB [0, 6, 7, 8] 0 Try.call53 (cclock_s x') ?_) | (refine hN _ ?_; try clear hN N; try clear hy ops) | (refine hA ?_; clear hA A hB B; try simp only [hz]) | (refine hB ?_; clear hA A hB B; try simp only [hz]) | ((first | refine guardO.mk ?_ ?_ | refine guardD.mk ?_ ?_ | refine Br.mk ?_ ?_) <;> (intro hz; have h := nm hz; try (exfalso; omega)) <;> (have hz := nz hz; try subst hz)) | (rw [if_pos (show _ ∧ _ from ⟨by omega, by omega⟩)]; refine sS ?_) | (simp only [thenV, blockV, if_true, if_false, Nat.reduceEqDiff, reduceCtorEq, imp_self]) | (clear hN N))
          all_goals (exact rndZ (Desc.re [some 0, some 6, some 7, some 8, some 4] rfl) (H'))
        · by_cases h2 : aa = 2
          · have H' := H (k + 1, 0, Cod.new, ⟨[], [], 0⟩) ⟨by dsimp only; omega, by dsimp only; omega, CRel.nw⟩ (by dsimp only; omega)
            clear H hg0
            dsimp only at H'
            subst h2
            obtain ⟨o, s, ⟨c1, c2, c3⟩, w⟩ := t
            dsimp only [txV] at ck rk
            refine loopV ?_
            have hz : True := trivial
            have hy := yieldedV_eq
            have hL := @hget
            repeat' (first | (refine WPV.seqK ?_; intro N hN) | refine WPV.block ?_ | refine WPV.scope ?_ | refine WPV.skip ?_ | refine WPV.label ?_ | refine WPV.exit ?_ | refine WPV.ret ?_ | (refine WPV.regionG (M := noM) ?_; intro N hN ops hy; (try simp only [List.append] at hy ⊢); (try simp only [List.map_cons, List.map_nil] at hy)) | (refine WPV.drawK (M := noM) (by kernel_rfl) (by kernel_rfl) ?_; intro N hN; have hy := yieldedV_eq) | (refine WPV.condK ?_; intro A hA B hB) | (refine here ?_; refine sS ?_) | (refine And.intro (by kernel_rfl : okOrd _ _ = true) ?_) | refine Both.mk ?_ ?_ | ((with_reducible refine CallO.gd 50 ?_); refine CallO.frB [] Try.call50 (ck) ?_) | ((with_reducible refine CallO.gd 54 ?_); refine CallO.frB [] Try.call54 (rk) ?_) | ((with_reducible refine CallO.gd 57 ?_); refine CallO.frB [0, 1, 2, 3] Try.call57 (creset_s x) ?_) | ((with_reducible refine CallO.gd 53 ?_); refine CallO.frB [0, 1, 6, 7] Try.call53 (cclock_e (x := Cod.new) (c := ⟨0, 0, 0⟩) rfl) ?_) | ((with_reducible refine CallP.gd 50 ?_); refine CallP.frB [] 0 Try.call50 (ck) ?_) | ((with_reducible refine CallP.gd 54 ?_); refine CallP.frB [] 0 Try.call54 (rk) ?_) | ((with_reducible refine CallP.gd 57 ?_); refine CallP.frB [0, 1, 2, 3] 2 Try.call57 (creset_s x) ?_) | ((with_reducible refine CallP.gd 53 ?_); refine CallP.frB [0, 1, 6, 7] 0 Try.call53 (cclock_e (x := Cod.new) (c := ⟨0, 0, 0⟩) rfl) ?_) | (refine hN _ ?_; try clear hN N; try clear hy ops) | (refine hA ?_; clear hA A hB B; try simp only [hz]) | (refine hB ?_; clear hA A hB B; try simp only [hz]) | ((first | refine guardO.mk ?_ ?_ | refine guardD.mk ?_ ?_ | refine Br.mk ?_ ?_) <;> (intro hz; have h := nm hz; try (exfalso; omega)) <;> (have hz := nz hz; try subst hz)) | (rw [if_pos (show _ ∧ _ from ⟨by omega, by omega⟩)]; refine sS ?_) | (simp only [thenV, blockV, if_true, if_false, Nat.reduceEqDiff, reduceCtorEq, imp_self]) | (clear hN N))
            all_goals (exact rndZ (Desc.re [some 0, some 1, some 6, some 7, some 8] rfl) (H'))
          · have H' := H (k + 1, n, x, r) ⟨by dsimp only; omega, by dsimp only; omega, hR⟩ (by dsimp only; omega)
            clear H hg0
            dsimp only at H'
            obtain ⟨o, s, ⟨c1, c2, c3⟩, w⟩ := t
            dsimp only [txV] at ck rk
            refine loopV ?_
            have hz : True := trivial
            have hy := yieldedV_eq
            have hL := @hget
            repeat' (first | (refine WPV.seqK ?_; intro N hN) | refine WPV.block ?_ | refine WPV.scope ?_ | refine WPV.skip ?_ | refine WPV.label ?_ | refine WPV.exit ?_ | refine WPV.ret ?_ | (refine WPV.regionG (M := noM) ?_; intro N hN ops hy; (try simp only [List.append] at hy ⊢); (try simp only [List.map_cons, List.map_nil] at hy)) | (refine WPV.drawK (M := noM) (by kernel_rfl) (by kernel_rfl) ?_; intro N hN; have hy := yieldedV_eq) | (refine WPV.condK ?_; intro A hA B hB) | (refine here ?_; refine sS ?_) | (refine And.intro (by kernel_rfl : okOrd _ _ = true) ?_) | refine Both.mk ?_ ?_ | ((with_reducible refine CallO.gd 50 ?_); refine CallO.frB [] Try.call50 (ck) ?_) | ((with_reducible refine CallO.gd 54 ?_); refine CallO.frB [] Try.call54 (rk) ?_) | ((with_reducible refine CallO.gd 53 ?_); refine CallO.frB [0, 1, 2, 3] Try.call53 (cclock_s x) ?_) | ((with_reducible refine CallP.gd 50 ?_); refine CallP.frB [] 0 Try.call50 (ck) ?_) | ((with_reducible refine CallP.gd 54 ?_); refine CallP.frB [] 0 Try.call54 (rk) ?_) | ((with_reducible refine CallP.gd 53 ?_); refine CallP.frB [0, 1, 2, 3] 0 Try.call53 (cclock_s x) ?_) | (refine hN _ ?_; try clear hN N; try clear hy ops) | (refine hA ?_; clear hA A hB B; try simp only [hz]) | (refine hB ?_; clear hA A hB B; try simp only [hz]) | ((first | refine guardO.mk ?_ ?_ | refine guardD.mk ?_ ?_ | refine Br.mk ?_ ?_) <;> (intro hz; have h := nm hz; try (exfalso; omega)) <;> (have hz := nz hz; try subst hz)) | (rw [if_pos (show _ ∧ _ from ⟨by omega, by omega⟩)]; refine sS ?_) | (simp only [thenV, blockV, if_true, if_false, Nat.reduceEqDiff, reduceCtorEq, imp_self]) | (clear hN N))
            all_goals (exact rndZ (Desc.re [some 0, some 1, some 2, some 3, some 4] rfl) (H'))
    · clear H
      refine loopV ?_
      have hz : True := trivial
      have hy := yieldedV_eq
      have hL := True.intro
      repeat' (first | (refine WPV.seqK ?_; intro N hN) | refine WPV.block ?_ | refine WPV.scope ?_ | refine WPV.skip ?_ | refine WPV.label ?_ | refine WPV.exit ?_ | refine WPV.ret ?_ | (refine WPV.regionG (M := noM) ?_; intro N hN ops hy; (try simp only [List.append] at hy ⊢); (try simp only [List.map_cons, List.map_nil] at hy)) | (refine WPV.drawK (M := noM) (by kernel_rfl) (by kernel_rfl) ?_; intro N hN; have hy := yieldedV_eq) | (refine WPV.condK ?_; intro A hA B hB) | (refine here ?_; refine sS ?_) | (refine And.intro (by kernel_rfl : okOrd _ _ = true) ?_) | refine Both.mk ?_ ?_ | (refine hN _ ?_; try clear hN N; try clear hy ops) | (refine hA ?_; clear hA A hB B; try simp only [hz]) | (refine hB ?_; clear hA A hB B; try simp only [hz]) | ((first | refine guardO.mk ?_ ?_ | refine guardD.mk ?_ ?_ | refine Br.mk ?_ ?_) <;> (intro hz; have h := nm hz; try (exfalso; omega)) <;> (have hz := nz hz; try subst hz)) | (rw [if_pos (show _ ∧ _ from ⟨by omega, by omega⟩)]; refine sS ?_) | (simp only [thenV, blockV, if_true, if_false, Nat.reduceEqDiff, reduceCtorEq, imp_self]) | (clear hN N))
      all_goals (first | exact retZ hQ Try.results12 (Desc.re [] rfl) | exact retZN hQ Try.results12 (Desc.re [] rfl))
end Go.Proofs.Ytonllhjmoenckaa
