/- Walks: TxnBack, TxnCanonical. -/
import Derived.Test.YtonllhjmoenckaaTxnY
namespace Go.Proofs.Ytonllhjmoenckaa
open Go Go.RowKit
set_option linter.unusedVariables false
set_option linter.unusedSimpArgs false
variable {K : Nat → Obj → Prop}
/-- Put: an error, that of Check, and all is as it was; or bytes, and they come back. -/
theorem tput_two {x : Cod Di} (ok : x.d.Ok) (hr : rightF x.c = true) (t : Tx) :
    (checkF t ≠ 0 ∧ tputF dpF x t = (([], checkF t), x)) ∨ (checkF t = 0 ∧ ∃ b x', tputF dpF x t = ((b, 0), x') ∧ x'.d.Ok ∧ rightF x'.c = true ∧ b.length ≤ 20000 ∧ ∀ rest, ttakeF dtF x (b ++ rest) = ((t, b.length, 0), x')) := by
  by_cases hc : checkF t = 0
  · refine .inr ⟨hc, (tputF dpF x t).1.1, (tputF dpF x t).2, ?_, tput_ok ok t, tput_r hr t, ?_, fun rest => take_put_t ok hr hc rest⟩
    · have : (tputF dpF x t).1.2 = 0 := by unfold tputF; rw [if_neg (by rw [hc]; simp)]
      exact Prod.ext (Prod.ext rfl this) rfl
    · obtain ⟨_, _, _, hw, ha, _⟩ := check_ok hc
      have e : (tputF dpF x t).1.1 = t.headF x.c ++ (wputF dpF x.d t.w).1 := by unfold tputF; rw [if_neg (by rw [hc]; simp)]
      rw [e]
      have h1 := cputF_len x.c t.c
      have h2 := wput_len t.w x.d ok (fun a h => (ha a h).2.1)
      have l1 := vput_len (n := t.o.toNat) (by omega)
      have l2 := vput_len (n := t.s.toNat) (by omega)
      have l3 := vput_len (n := t.w.length) (by omega)
      unfold Tx.headF
      simp only [List.length_append]; omega
  · refine .inl ⟨hc, ?_⟩
    unfold tputF; rw [if_pos hc]
set_option maxRecDepth 100000 in
set_option maxHeartbeats 4000000 in
theorem txnback_s (aw : Sp Try.prog K 46 [] [] fun u hh => u = .sc (.bool true) ∧ hh = []) (l : List Tact) (rest : List UInt8) (hl : l.length ≤ 9223372036854775807) : Sp Try.prog K 10 [.sl 8 (tacts l), .sl 1 (bs rest)] [] fun u hh => u = .sc (.bool true) ∧ hh = [] := by
  by_cases hg : tlarge l = true
  · skip
    refine Sp.of_bodyE Try.func10 rfl ?_
    intro Q hQ
    simp only [List.replicate, List.length_cons, List.length_nil, Try.ntmps10, Nat.reduceAdd, Nat.reduceSub, List.cons_append, List.nil_append, go_sem]
    have hz : True := trivial
    have hy := yieldedV_eq
    have hL := @hg
    repeat' (first | (refine WPV.seqK ?_; intro N hN) | refine WPV.block ?_ | refine WPV.scope ?_ | refine WPV.skip ?_ | refine WPV.label ?_ | refine WPV.exit ?_ | refine WPV.ret ?_ | (refine WPV.regionG (M := noM) ?_; intro N hN ops hy; (try simp only [List.append] at hy ⊢); (try simp only [List.map_cons, List.map_nil] at hy)) | (refine WPV.drawK (M := noM) (by kernel_rfl) (by kernel_rfl) ?_; intro N hN; have hy := yieldedV_eq) | (refine WPV.condK ?_; intro A hA B hB) | (refine here ?_; refine sS ?_) | (refine And.intro (by kernel_rfl : okOrd _ _ = true) ?_) | refine Both.mk ?_ ?_ | ((with_reducible refine CallO.gd 46 ?_); refine CallO.frB [] Try.call46 (aw) ?_) | ((with_reducible refine CallO.gd 47 ?_); refine CallO.frB [] Try.call47 (tlarge_s l hl) ?_) | ((with_reducible refine CallO.gd 48 ?_); refine CallO.frB [] Try.call48 (cnew_s) ?_) | (refine hN _ ?_; try clear hN N; try clear hy ops) | (refine hA ?_; clear hA A hB B; try simp only [hz]) | (refine hB ?_; clear hA A hB B; try simp only [hz]) | ((first | refine guardO.mk ?_ ?_ | refine guardD.mk ?_ ?_ | refine Br.mk ?_ ?_) <;> (intro hz; have h := nm hz; try (exfalso; omega)) <;> (have hz := nz hz; try subst hz)) | (rw [if_pos (show _ ∧ _ from ⟨by omega, by omega⟩)]; refine sS ?_) | (simp only [thenV, blockV, if_true, if_false, Nat.reduceEqDiff, reduceCtorEq, imp_self]) | (clear hN N))
    all_goals (first | exact retZ hQ Try.results10 (Desc.re [] rfl) | exact retZN hQ Try.results10 (Desc.re [] rfl))
  have hg : tlarge l = false := by simpa using hg
  by_cases hrl : 9000 < rest.length
  · skip
    refine Sp.of_bodyE Try.func10 rfl ?_
    intro Q hQ
    simp only [List.replicate, List.length_cons, List.length_nil, Try.ntmps10, Nat.reduceAdd, Nat.reduceSub, List.cons_append, List.nil_append, go_sem]
    have hz : True := trivial
    have hy := yieldedV_eq
    have hL := @hg
    repeat' (first | (refine WPV.seqK ?_; intro N hN) | refine WPV.block ?_ | refine WPV.scope ?_ | refine WPV.skip ?_ | refine WPV.label ?_ | refine WPV.exit ?_ | refine WPV.ret ?_ | (refine WPV.regionG (M := noM) ?_; intro N hN ops hy; (try simp only [List.append] at hy ⊢); (try simp only [List.map_cons, List.map_nil] at hy)) | (refine WPV.drawK (M := noM) (by kernel_rfl) (by kernel_rfl) ?_; intro N hN; have hy := yieldedV_eq) | (refine WPV.condK ?_; intro A hA B hB) | (refine here ?_; refine sS ?_) | (refine And.intro (by kernel_rfl : okOrd _ _ = true) ?_) | refine Both.mk ?_ ?_ | ((with_reducible refine CallO.gd 46 ?_); refine CallO.frB [] Try.call46 (aw) ?_) | ((with_reducible refine CallO.gd 47 ?_); refine CallO.frB [] Try.call47 (tlarge_s l hl) ?_) | ((with_reducible refine CallO.gd 48 ?_); refine CallO.frB [] Try.call48 (cnew_s) ?_) | (refine hN _ ?_; try clear hN N; try clear hy ops) | (refine hA ?_; clear hA A hB B; try simp only [hz]) | (refine hB ?_; clear hA A hB B; try simp only [hz]) | ((first | refine guardO.mk ?_ ?_ | refine guardD.mk ?_ ?_ | refine Br.mk ?_ ?_) <;> (intro hz; have h := nm hz; try (exfalso; omega)) <;> (have hz := nz hz; try subst hz)) | (rw [if_pos (show _ ∧ _ from ⟨by omega, by omega⟩)]; refine sS ?_) | (simp only [thenV, blockV, if_true, if_false, Nat.reduceEqDiff, reduceCtorEq, imp_self]) | (clear hN N))
    all_goals (first | exact retZ hQ Try.results10 (Desc.re [] rfl) | exact retZN hQ Try.results10 (Desc.re [] rfl))
  refine Sp.of_bodyE Try.func10 rfl ?_
  intro Q hQ
  simp only [List.replicate, List.length_cons, List.length_nil, Try.ntmps10, Nat.reduceAdd, Nat.reduceSub, List.cons_append, List.nil_append, go_sem]
  have hz : True := trivial
  have hy := yieldedV_eq
  have hL := @hg
  repeat' (first | (refine WPV.seqK ?_; intro N hN) | refine WPV.block ?_ | refine WPV.scope ?_ | refine WPV.skip ?_ | refine WPV.label ?_ | refine WPV.exit ?_ | refine WPV.ret ?_ | (refine WPV.regionG (M := noM) ?_; intro N hN ops hy; (try simp only [List.append] at hy ⊢); (try simp only [List.map_cons, List.map_nil] at hy)) | (refine WPV.drawK (M := noM) (by kernel_rfl) (by kernel_rfl) ?_; intro N hN; have hy := yieldedV_eq) | (refine WPV.condK ?_; intro A hA B hB) | (refine here ?_; refine sS ?_) | (refine And.intro (by kernel_rfl : okOrd _ _ = true) ?_) | refine Both.mk ?_ ?_ | ((with_reducible refine CallO.gd 46 ?_); refine CallO.frB [] Try.call46 (aw) ?_) | ((with_reducible refine CallO.gd 47 ?_); refine CallO.frB [] Try.call47 (tlarge_s l hl) ?_) | ((with_reducible refine CallO.gd 48 ?_); refine CallO.frB [] Try.call48 (cnew_s) ?_) | (refine hN _ ?_; try clear hN N; try clear hy ops) | (refine hA ?_; clear hA A hB B; try simp only [hz]) | (refine hB ?_; clear hA A hB B; try simp only [hz]) | ((first | refine guardO.mk ?_ ?_ | refine guardD.mk ?_ ?_ | refine Br.mk ?_ ?_) <;> (intro hz; have h := nm hz; try (exfalso; omega)) <;> (have hz := nz hz; try subst hz)) | (rw [if_pos (show _ ∧ _ from ⟨by omega, by omega⟩)]; refine sS ?_) | (simp only [thenV, blockV, if_true, if_false, Nat.reduceEqDiff, reduceCtorEq, imp_self]) | (clear hN N))
  refine WPV.loopW (α := Nat × Cod Di) (fun s => l.length - s.1) (fun s => ⟨[.sl 8 (tacts l), .sl 1 (bs rest), .any, .any, .any, .ptr 0 0, .ptr 4 0, .any, .any, .any, .any, .any, .any, .any, .any, .any, .any, .any, .any, .any, .any, .any, .any, .any, .any, .any, .any, .any, .any, .any, .any, .sl 8 (tacts l), .sc (.int .i64 (l.length : Int)), .sc (.int .i64 ((s.1 : Nat) : Int)), .any, .any, .any, .any, .any, .any, .any, .any, .any, .any, .any, .any, .any, .any, .any, .any, .any, .any, .any, .any, .any, .any, .any, .any, .any, .any, .any, .any, .any, .any, .any, .any, .any, .any, .any, .any, .any, .any, .any, .any, .any, .any, .any, .any, .any, .any, .any, .any, .any, .any, .any], [.cells [.ptr 1 0, .sc (.int .i64 s.2.c.x), .sc (.int .i64 s.2.c.y), .sc (.int .i64 s.2.c.z)], .cells [.hs true 1 2 0 s.2.d.ks.length, .mp 3, .sc (.int .i64 (s.2.d.e : Int))], .cells (kc s.2.d.ks), .map (pm s.2.d.c s.2.d.l), .cells [.ptr 5 0, .sc (.int .i64 s.2.c.x), .sc (.int .i64 s.2.c.y), .sc (.int .i64 s.2.c.z)], .cells [.hs true 1 6 0 s.2.d.ks.length, .mp 7, .sc (.int .i64 (s.2.d.e : Int))], .cells (kc s.2.d.ks), .map (pm s.2.d.c s.2.d.l)]⟩) (fun s => s.1 ≤ l.length ∧ s.2.d.Ok ∧ rightF s.2.c = true) (0, Cod.new) Desc.weakA ⟨Nat.zero_le _, .nw, by decide⟩ (fun s hJ H => ?_)
  obtain ⟨k, x⟩ := s
  obtain ⟨hk0, ok, hr⟩ := hJ
  dsimp only at hk0 ok hr H ⊢
  by_cases h : k < l.length
  · obtain ⟨a, hg0⟩ : ∃ a, l[k] = a := ⟨_, rfl⟩
    have hget : l[k]? = some a := by rw [← hg0]; exact List.getElem?_eq_getElem h
    obtain ⟨b1, b2, b3⟩ := tact_ok hg hget
    have ck := tcheck_s (K := K) a.t (by omega)
    have st := rsame_t (K := K) a.t (by omega)
    obtain ⟨aa, t, ab⟩ := a
    dsimp only at b2 b3 ck st
    rcases tput_two ok hr t with ⟨hc, p1⟩ | ⟨hc, b, x', p1, ok', hr', hbl, p2⟩
    · have cp := cput_e (K := K) p1 ok (by omega)
      have H' := H (k + 1, x) ⟨h, ok, hr⟩ (by dsimp only; omega)
      clear H hg0
      dsimp only at H'
      generalize checkF t = q at *
      obtain ⟨o, s, ⟨c1, c2, c3⟩, w⟩ := t
      dsimp only [txV] at ck cp
      refine loopV ?_
      have hz : True := trivial
      have hy := yieldedV_eq
      have hL := @hget
      repeat' (first | (refine WPV.seqK ?_; intro N hN) | refine WPV.block ?_ | refine WPV.scope ?_ | refine WPV.skip ?_ | refine WPV.label ?_ | refine WPV.exit ?_ | refine WPV.ret ?_ | (refine WPV.regionG (M := noM) ?_; intro N hN ops hy; (try simp only [List.append] at hy ⊢); (try simp only [List.map_cons, List.map_nil] at hy)) | (refine WPV.drawK (M := noM) (by kernel_rfl) (by kernel_rfl) ?_; intro N hN; have hy := yieldedV_eq) | (refine WPV.condK ?_; intro A hA B hB) | (refine here ?_; refine sS ?_) | (refine And.intro (by kernel_rfl : okOrd _ _ = true) ?_) | refine Both.mk ?_ ?_ | ((with_reducible refine CallO.gd 50 ?_); refine CallO.frB [] Try.call50 (ck) ?_) | ((with_reducible refine CallO.gd 49 ?_); refine CallO.frB [0, 1, 2, 3] Try.call49 (cp) ?_) | ((with_reducible refine CallP.gd 50 ?_); refine CallP.frB [] 0 Try.call50 (ck) ?_) | ((with_reducible refine CallP.gd 49 ?_); refine CallP.frB [0, 1, 2, 3] 2 Try.call49 (cp) ?_) | (refine hN _ ?_; try clear hN N; try clear hy ops) | (refine hA ?_; clear hA A hB B; try simp only [hz]) | (refine hB ?_; clear hA A hB B; try simp only [hz]) | ((first | refine guardO.mk ?_ ?_ | refine guardD.mk ?_ ?_ | refine Br.mk ?_ ?_) <;> (intro hz; have h := nm hz; try (exfalso; omega)) <;> (have hz := nz hz; try subst hz)) | (rw [if_pos (show _ ∧ _ from ⟨by omega, by omega⟩)]; refine sS ?_) | (simp only [thenV, blockV, if_true, if_false, Nat.reduceEqDiff, reduceCtorEq, imp_self]) | (clear hN N))
      all_goals (exact rndZ (Desc.re [some 0, some 1, some 9, some 10, some 4, some 5, some 6, some 7] rfl) (H'))
    · have cp := cput_e (K := K) p1 ok (by omega)
      have ctk := ctake_e (K := K) (p2 rest) ok (by rw [List.length_append]; omega)
      have H' := H (k + 1, x') ⟨h, ok', hr'⟩ (by dsimp only; omega)
      clear H hg0
      dsimp only at H'
      rw [hc] at ck
      obtain ⟨o, s, ⟨c1, c2, c3⟩, w⟩ := t
      dsimp only [txV] at ck cp ctk st
      refine loopV ?_
      have hz : True := trivial
      have hy := yieldedV_eq
      have hL := @hget
      repeat' (first | (refine WPV.seqK ?_; intro N hN) | refine WPV.block ?_ | refine WPV.scope ?_ | refine WPV.skip ?_ | refine WPV.label ?_ | refine WPV.exit ?_ | refine WPV.ret ?_ | (refine WPV.regionG (M := noM) ?_; intro N hN ops hy; (try simp only [List.append] at hy ⊢); (try simp only [List.map_cons, List.map_nil] at hy)) | (refine WPV.drawK (M := noM) (by kernel_rfl) (by kernel_rfl) ?_; intro N hN; have hy := yieldedV_eq) | (refine WPV.condK ?_; intro A hA B hB) | (refine here ?_; refine sS ?_) | (refine And.intro (by kernel_rfl : okOrd _ _ = true) ?_) | refine Both.mk ?_ ?_ | ((with_reducible refine CallO.gd 50 ?_); refine CallO.frB [] Try.call50 (ck) ?_) | ((with_reducible refine CallO.gd 49 ?_); refine CallO.frB [0, 1, 2, 3] Try.call49 (cp) ?_) | ((with_reducible refine CallO.gd 51 ?_); refine CallO.frB [4, 5, 6, 7] Try.call51 (ctk) ?_) | ((with_reducible refine CallO.gd 52 ?_); refine CallO.frB [] Try.call52 (st) ?_) | ((with_reducible refine CallO.gd 53 ?_); first | refine CallO.frB [0, 1, 9, 10] Try.call53 (cclock_s x') ?_ | refine CallO.frB [4, 13, 14, 15] Try.call53 (cclock_s x') ?_) | ((with_reducible refine CallP.gd 50 ?_); refine CallP.frB [] 0 Try.call50 (ck) ?_) | ((with_reducible refine CallP.gd 49 ?_); refine CallP.frB [0, 1, 2, 3] 2 Try.call49 (cp) ?_) | ((with_reducible refine CallP.gd 51 ?_); refine CallP.frB [4, 5, 6, 7] 3 Try.call51 (ctk) ?_) | ((with_reducible refine CallP.gd 52 ?_); refine CallP.frB [] 0 Try.call52 (st) ?_) | ((with_reducible refine CallP.gd 53 ?_); first | refine CallP.frB [0, 1, 9, 10] 0 Try.call53 (cclock_s x') ?_ | refine CallP.frB [4, 13, 14, 15] 0 Try.call53 (cclock_s x') ?_) | (refine hN _ ?_; try clear hN N; try clear hy ops) | (refine hA ?_; clear hA A hB B; try simp only [hz]) | (refine hB ?_; clear hA A hB B; try simp only [hz]) | ((first | refine guardO.mk ?_ ?_ | refine guardD.mk ?_ ?_ | refine Br.mk ?_ ?_) <;> (intro hz; have h := nm hz; try (exfalso; omega)) <;> (have hz := nz hz; try subst hz)) | (rw [if_pos (show _ ∧ _ from ⟨by omega, by omega⟩)]; refine sS ?_) | (simp only [thenV, blockV, if_true, if_false, Nat.reduceEqDiff, reduceCtorEq, imp_self]) | (clear hN N))
      all_goals (exact rndZ (Desc.re [some 0, some 1, some 9, some 10, some 4, some 13, some 14, some 15] rfl) (H'))
  · clear H
    refine loopV ?_
    have hz : True := trivial
    have hy := yieldedV_eq
    have hL := True.intro
    repeat' (first | (refine WPV.seqK ?_; intro N hN) | refine WPV.block ?_ | refine WPV.scope ?_ | refine WPV.skip ?_ | refine WPV.label ?_ | refine WPV.exit ?_ | refine WPV.ret ?_ | (refine WPV.regionG (M := noM) ?_; intro N hN ops hy; (try simp only [List.append] at hy ⊢); (try simp only [List.map_cons, List.map_nil] at hy)) | (refine WPV.drawK (M := noM) (by kernel_rfl) (by kernel_rfl) ?_; intro N hN; have hy := yieldedV_eq) | (refine WPV.condK ?_; intro A hA B hB) | (refine here ?_; refine sS ?_) | (refine And.intro (by kernel_rfl : okOrd _ _ = true) ?_) | refine Both.mk ?_ ?_ | (refine hN _ ?_; try clear hN N; try clear hy ops) | (refine hA ?_; clear hA A hB B; try simp only [hz]) | (refine hB ?_; clear hA A hB B; try simp only [hz]) | ((first | refine guardO.mk ?_ ?_ | refine guardD.mk ?_ ?_ | refine Br.mk ?_ ?_) <;> (intro hz; have h := nm hz; try (exfalso; omega)) <;> (have hz := nz hz; try subst hz)) | (rw [if_pos (show _ ∧ _ from ⟨by omega, by omega⟩)]; refine sS ?_) | (simp only [thenV, blockV, if_true, if_false, Nat.reduceEqDiff, reduceCtorEq, imp_self]) | (clear hN N))
    all_goals (first | exact retZ hQ Try.results10 (Desc.re [] rfl) | exact retZN hQ Try.results10 (Desc.re [] rfl))
/-- Take: an error, and all is as it was; or a transaction, and its bytes come back. -/
theorem ttake_two {x : Cod Di} (ok : x.d.Ok) (hr : rightF x.c = true) (b : List UInt8) :
    (∃ e, e ≠ 0 ∧ ttakeF dtF x b = ((Tx.zero, 0, e), x)) ∨ (∃ t n x', ttakeF dtF x b = ((t, n, 0), x') ∧ tputF dpF x t = ((b.take n, 0), x') ∧ 1 ≤ n ∧ n ≤ b.length ∧ checkF t = 0 ∧ x'.d.Ok ∧ rightF x'.c = true ∧ t.w.length ≤ 16) := by
  by_cases he : (ttakeF dtF x b).1.2.2 = 0
  · have h : ttakeF dtF x b = (((ttakeF dtF x b).1.1, (ttakeF dtF x b).1.2.1, 0), (ttakeF dtF x b).2) := Prod.ext (Prod.ext rfl (Prod.ext rfl he)) rfl
    obtain ⟨a1, a2, a3, a4, a5, a6⟩ := put_take_t ok hr h
    exact .inr ⟨_, _, _, h, a1, a2, a3, a4, a5, a6, ttake_w ok hr h⟩
  · exact .inl ⟨_, he, ttake_err rfl he⟩
set_option maxRecDepth 100000 in
set_option maxHeartbeats 4000000 in
theorem txncanonical_s (aw : Sp Try.prog K 46 [] [] fun u hh => u = .sc (.bool true) ∧ hh = []) (l : List Tact) (hl : l.length ≤ 9223372036854775807) : Sp Try.prog K 11 [.sl 8 (tacts l)] [] fun u hh => u = .sc (.bool true) ∧ hh = [] := by
  by_cases hg : tlarge l = true
  · skip
    refine Sp.of_bodyE Try.func11 rfl ?_
    intro Q hQ
    simp only [List.replicate, List.length_cons, List.length_nil, Try.ntmps11, Nat.reduceAdd, Nat.reduceSub, List.cons_append, List.nil_append, go_sem]
    have hz : True := trivial
    have hy := yieldedV_eq
    have hL := @hg
    repeat' (first | (refine WPV.seqK ?_; intro N hN) | refine WPV.block ?_ | refine WPV.scope ?_ | refine WPV.skip ?_ | refine WPV.label ?_ | refine WPV.exit ?_ | refine WPV.ret ?_ | (refine WPV.regionG (M := noM) ?_; intro N hN ops hy; (try simp only [List.append] at hy ⊢); (try simp only [List.map_cons, List.map_nil] at hy)) | (refine WPV.drawK (M := noM) (by kernel_rfl) (by kernel_rfl) ?_; intro N hN; have hy := yieldedV_eq) | (refine WPV.condK ?_; intro A hA B hB) | (refine here ?_; refine sS ?_) | (refine And.intro (by kernel_rfl : okOrd _ _ = true) ?_) | refine Both.mk ?_ ?_ | ((with_reducible refine CallO.gd 46 ?_); refine CallO.frB [] Try.call46 (aw) ?_) | ((with_reducible refine CallO.gd 47 ?_); refine CallO.frB [] Try.call47 (tlarge_s l hl) ?_) | ((with_reducible refine CallO.gd 48 ?_); refine CallO.frB [] Try.call48 (cnew_s) ?_) | (refine hN _ ?_; try clear hN N; try clear hy ops) | (refine hA ?_; clear hA A hB B; try simp only [hz]) | (refine hB ?_; clear hA A hB B; try simp only [hz]) | ((first | refine guardO.mk ?_ ?_ | refine guardD.mk ?_ ?_ | refine Br.mk ?_ ?_) <;> (intro hz; have h := nm hz; try (exfalso; omega)) <;> (have hz := nz hz; try subst hz)) | (rw [if_pos (show _ ∧ _ from ⟨by omega, by omega⟩)]; refine sS ?_) | (simp only [thenV, blockV, if_true, if_false, Nat.reduceEqDiff, reduceCtorEq, imp_self]) | (clear hN N))
    all_goals (first | exact retZ hQ Try.results11 (Desc.re [] rfl) | exact retZN hQ Try.results11 (Desc.re [] rfl))
  have hg : tlarge l = false := by simpa using hg
  refine Sp.of_bodyE Try.func11 rfl ?_
  intro Q hQ
  simp only [List.replicate, List.length_cons, List.length_nil, Try.ntmps11, Nat.reduceAdd, Nat.reduceSub, List.cons_append, List.nil_append, go_sem]
  have hz : True := trivial
  have hy := yieldedV_eq
  have hL := @hg
  repeat' (first | (refine WPV.seqK ?_; intro N hN) | refine WPV.block ?_ | refine WPV.scope ?_ | refine WPV.skip ?_ | refine WPV.label ?_ | refine WPV.exit ?_ | refine WPV.ret ?_ | (refine WPV.regionG (M := noM) ?_; intro N hN ops hy; (try simp only [List.append] at hy ⊢); (try simp only [List.map_cons, List.map_nil] at hy)) | (refine WPV.drawK (M := noM) (by kernel_rfl) (by kernel_rfl) ?_; intro N hN; have hy := yieldedV_eq) | (refine WPV.condK ?_; intro A hA B hB) | (refine here ?_; refine sS ?_) | (refine And.intro (by kernel_rfl : okOrd _ _ = true) ?_) | refine Both.mk ?_ ?_ | ((with_reducible refine CallO.gd 46 ?_); refine CallO.frB [] Try.call46 (aw) ?_) | ((with_reducible refine CallO.gd 47 ?_); refine CallO.frB [] Try.call47 (tlarge_s l hl) ?_) | ((with_reducible refine CallO.gd 48 ?_); refine CallO.frB [] Try.call48 (cnew_s) ?_) | (refine hN _ ?_; try clear hN N; try clear hy ops) | (refine hA ?_; clear hA A hB B; try simp only [hz]) | (refine hB ?_; clear hA A hB B; try simp only [hz]) | ((first | refine guardO.mk ?_ ?_ | refine guardD.mk ?_ ?_ | refine Br.mk ?_ ?_) <;> (intro hz; have h := nm hz; try (exfalso; omega)) <;> (have hz := nz hz; try subst hz)) | (rw [if_pos (show _ ∧ _ from ⟨by omega, by omega⟩)]; refine sS ?_) | (simp only [thenV, blockV, if_true, if_false, Nat.reduceEqDiff, reduceCtorEq, imp_self]) | (clear hN N))
  refine WPV.loopW (α := Nat × Cod Di) (fun s => l.length - s.1) (fun s => ⟨[.sl 8 (tacts l), .any, .any, .ptr 0 0, .ptr 4 0, .any, .any, .any, .any, .any, .any, .any, .any, .any, .any, .any, .any, .any, .any, .any, .any, .any, .any, .any, .any, .sl 8 (tacts l), .sc (.int .i64 (l.length : Int)), .sc (.int .i64 ((s.1 : Nat) : Int)), .any, .any, .any, .any, .any, .any, .any, .any, .any, .any, .any, .any, .any, .any, .any, .any, .any, .any, .any, .any, .any, .any, .any, .any, .any, .any, .any, .any, .any, .any, .any, .any, .any, .any, .any, .any, .any, .any, .any, .any, .any, .any, .any, .any, .any, .any, .any, .any, .any, .any, .any, .any, .any, .any, .any, .any, .any, .any, .any, .any, .any, .any, .any, .any, .any, .any, .any, .any, .any, .any], [.cells [.ptr 1 0, .sc (.int .i64 s.2.c.x), .sc (.int .i64 s.2.c.y), .sc (.int .i64 s.2.c.z)], .cells [.hs true 1 2 0 s.2.d.ks.length, .mp 3, .sc (.int .i64 (s.2.d.e : Int))], .cells (kc s.2.d.ks), .map (pm s.2.d.c s.2.d.l), .cells [.ptr 5 0, .sc (.int .i64 s.2.c.x), .sc (.int .i64 s.2.c.y), .sc (.int .i64 s.2.c.z)], .cells [.hs true 1 6 0 s.2.d.ks.length, .mp 7, .sc (.int .i64 (s.2.d.e : Int))], .cells (kc s.2.d.ks), .map (pm s.2.d.c s.2.d.l)]⟩) (fun s => s.1 ≤ l.length ∧ s.2.d.Ok ∧ rightF s.2.c = true) (0, Cod.new) Desc.weakA ⟨Nat.zero_le _, .nw, by decide⟩ (fun s hJ H => ?_)
  obtain ⟨k, x⟩ := s
  obtain ⟨hk0, ok, hr⟩ := hJ
  dsimp only at hk0 ok hr H ⊢
  by_cases h : k < l.length
  · obtain ⟨a, hg0⟩ : ∃ a, l[k] = a := ⟨_, rfl⟩
    have hget : l[k]? = some a := by rw [← hg0]; exact List.getElem?_eq_getElem h
    obtain ⟨b1, b2, b3⟩ := tact_ok hg hget
    obtain ⟨aa, t0, ab⟩ := a
    obtain ⟨o0, s0, ⟨e1, e2, e3⟩, w0⟩ := t0
    dsimp only at b2 b3
    rcases ttake_two ok hr ab with ⟨e, he, p1⟩ | ⟨t, n, x', p1, p2, n1, n2, hc, ok', hr', hw⟩
    · have cp := ctake_e (K := K) p1 ok (by omega)
      have H' := H (k + 1, x) ⟨h, ok, hr⟩ (by dsimp only; omega)
      clear H hg0
      dsimp only [Tx.zero, txV] at H' cp
      refine loopV ?_
      have hz : True := trivial
      have hy := yieldedV_eq
      have hL := @hget
      repeat' (first | (refine WPV.seqK ?_; intro N hN) | refine WPV.block ?_ | refine WPV.scope ?_ | refine WPV.skip ?_ | refine WPV.label ?_ | refine WPV.exit ?_ | refine WPV.ret ?_ | (refine WPV.regionG (M := noM) ?_; intro N hN ops hy; (try simp only [List.append] at hy ⊢); (try simp only [List.map_cons, List.map_nil] at hy)) | (refine WPV.drawK (M := noM) (by kernel_rfl) (by kernel_rfl) ?_; intro N hN; have hy := yieldedV_eq) | (refine WPV.condK ?_; intro A hA B hB) | (refine here ?_; refine sS ?_) | (refine And.intro (by kernel_rfl : okOrd _ _ = true) ?_) | refine Both.mk ?_ ?_ | ((with_reducible refine CallO.gd 51 ?_); refine CallO.frB [0, 1, 2, 3] Try.call51 (cp) ?_) | ((with_reducible refine CallO.gd 53 ?_); first | refine CallO.frB [0, 1, 2, 3] Try.call53 (cclock_s x) ?_ | refine CallO.frB [0, 10, 11, 12] Try.call53 (cclock_s x) ?_) | ((with_reducible refine CallP.gd 51 ?_); refine CallP.frB [0, 1, 2, 3] 3 Try.call51 (cp) ?_) | ((with_reducible refine CallP.gd 53 ?_); first | refine CallP.frB [0, 1, 2, 3] 0 Try.call53 (cclock_s x) ?_ | refine CallP.frB [0, 10, 11, 12] 0 Try.call53 (cclock_s x) ?_) | (refine hN _ ?_; try clear hN N; try clear hy ops) | (refine hA ?_; clear hA A hB B; try simp only [hz]) | (refine hB ?_; clear hA A hB B; try simp only [hz]) | ((first | refine guardO.mk ?_ ?_ | refine guardD.mk ?_ ?_ | refine Br.mk ?_ ?_) <;> (intro hz; have h := nm hz; try (exfalso; omega)) <;> (have hz := nz hz; try subst hz)) | (rw [if_pos (show _ ∧ _ from ⟨by omega, by omega⟩)]; refine sS ?_) | (simp only [thenV, blockV, if_true, if_false, Nat.reduceEqDiff, reduceCtorEq, imp_self]) | (clear hN N))
      all_goals (exact rndZ (Desc.re [some 0, some 10, some 11, some 12, some 4, some 5, some 6, some 7] rfl) (H'))
    · have ctk := ctake_e (K := K) p1 ok (by omega)
      have cp := cput_e (K := K) p2 ok (by omega)
      have ck := tcheck_s (K := K) t (by omega)
      rw [hc] at ck
      have sb := fun h => vsame_t (K := K) (ab.take n) h
      have H' := H (k + 1, x') ⟨h, ok', hr'⟩ (by dsimp only; omega)
      clear H hg0
      dsimp only at H'
      obtain ⟨o, s, ⟨c1, c2, c3⟩, w⟩ := t
      dsimp only [txV] at ck cp ctk
      refine loopV ?_
      have hz : True := trivial
      have hy := yieldedV_eq
      have hL := @hget
      repeat' (first | (refine WPV.seqK ?_; intro N hN) | refine WPV.block ?_ | refine WPV.scope ?_ | refine WPV.skip ?_ | refine WPV.label ?_ | refine WPV.exit ?_ | refine WPV.ret ?_ | (refine WPV.regionG (M := noM) ?_; intro N hN ops hy; (try simp only [List.append] at hy ⊢); (try simp only [List.map_cons, List.map_nil] at hy)) | (refine WPV.drawK (M := noM) (by kernel_rfl) (by kernel_rfl) ?_; intro N hN; have hy := yieldedV_eq) | (refine WPV.condK ?_; intro A hA B hB) | (refine here ?_; refine sS ?_) | (refine And.intro (by kernel_rfl : okOrd _ _ = true) ?_) | refine Both.mk ?_ ?_ | ((with_reducible refine CallO.gd 50 ?_); refine CallO.frB [] Try.call50 (ck) ?_) | ((with_reducible refine CallO.gd 51 ?_); refine CallO.frB [0, 1, 2, 3] Try.call51 (ctk) ?_) | ((with_reducible refine CallO.gd 49 ?_); refine CallO.frB [4, 5, 6, 7] Try.call49 (cp) ?_) | ((with_reducible refine CallO.gd 37 ?_); refine CallO.toB Try.call37 (sb _) ?_) | ((with_reducible refine CallO.gd 53 ?_); first | refine CallO.frB [0, 1, 2, 3] Try.call53 (cclock_s x) ?_ | refine CallO.frB [0, 10, 11, 12] Try.call53 (cclock_s x') ?_ | refine CallO.frB [4, 5, 14, 15] Try.call53 (cclock_s x') ?_) | ((with_reducible refine CallP.gd 50 ?_); refine CallP.frB [] 0 Try.call50 (ck) ?_) | ((with_reducible refine CallP.gd 51 ?_); refine CallP.frB [0, 1, 2, 3] 3 Try.call51 (ctk) ?_) | ((with_reducible refine CallP.gd 49 ?_); refine CallP.frB [4, 5, 6, 7] 2 Try.call49 (cp) ?_) | ((with_reducible refine CallP.gd 37 ?_); refine CallP.toB Try.call37 (sb _) ?_) | ((with_reducible refine CallP.gd 53 ?_); first | refine CallP.frB [0, 1, 2, 3] 0 Try.call53 (cclock_s x) ?_ | refine CallP.frB [0, 10, 11, 12] 0 Try.call53 (cclock_s x') ?_ | refine CallP.frB [4, 5, 14, 15] 0 Try.call53 (cclock_s x') ?_) | (refine hN _ ?_; try clear hN N; try clear hy ops) | (refine hA ?_; clear hA A hB B; try simp only [hz]) | (refine hB ?_; clear hA A hB B; try simp only [hz]) | ((first | refine guardO.mk ?_ ?_ | refine guardD.mk ?_ ?_ | refine Br.mk ?_ ?_) <;> (intro hz; have h := nm hz; try (exfalso; omega)) <;> (have hz := nz hz; try subst hz)) | (rw [if_pos (show _ ∧ _ from ⟨by omega, by omega⟩)]; refine sS ?_) | (simp only [thenV, blockV, if_true, if_false, Nat.reduceEqDiff, reduceCtorEq, imp_self]) | (clear hN N))
      all_goals (exact rndZ (Desc.re [some 0, some 10, some 11, some 12, some 4, some 5, some 14, some 15] rfl) (H'))
  · clear H
    refine loopV ?_
    have hz : True := trivial
    have hy := yieldedV_eq
    have hL := True.intro
    repeat' (first | (refine WPV.seqK ?_; intro N hN) | refine WPV.block ?_ | refine WPV.scope ?_ | refine WPV.skip ?_ | refine WPV.label ?_ | refine WPV.exit ?_ | refine WPV.ret ?_ | (refine WPV.regionG (M := noM) ?_; intro N hN ops hy; (try simp only [List.append] at hy ⊢); (try simp only [List.map_cons, List.map_nil] at hy)) | (refine WPV.drawK (M := noM) (by kernel_rfl) (by kernel_rfl) ?_; intro N hN; have hy := yieldedV_eq) | (refine WPV.condK ?_; intro A hA B hB) | (refine here ?_; refine sS ?_) | (refine And.intro (by kernel_rfl : okOrd _ _ = true) ?_) | refine Both.mk ?_ ?_ | (refine hN _ ?_; try clear hN N; try clear hy ops) | (refine hA ?_; clear hA A hB B; try simp only [hz]) | (refine hB ?_; clear hA A hB B; try simp only [hz]) | ((first | refine guardO.mk ?_ ?_ | refine guardD.mk ?_ ?_ | refine Br.mk ?_ ?_) <;> (intro hz; have h := nm hz; try (exfalso; omega)) <;> (have hz := nz hz; try subst hz)) | (rw [if_pos (show _ ∧ _ from ⟨by omega, by omega⟩)]; refine sS ?_) | (simp only [thenV, blockV, if_true, if_false, Nat.reduceEqDiff, reduceCtorEq, imp_self]) | (clear hN N))
    all_goals (first | exact retZ hQ Try.results11 (Desc.re [] rfl) | exact retZN hQ Try.results11 (Desc.re [] rfl))
end Go.Proofs.Ytonllhjmoenckaa
