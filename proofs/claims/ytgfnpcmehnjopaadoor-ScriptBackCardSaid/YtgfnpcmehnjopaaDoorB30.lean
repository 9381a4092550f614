/- Parts of the proofs, joined: ScrBk. -/
import Derived.Test.YtgfnpcmehnjopaaDoorB28
namespace Go.Proofs.YtgfnpcmehnjopaaDoor
open Go Go.RowKit
set_option linter.unusedVariables false
set_option linter.unusedSimpArgs false
variable {K : Nat → Obj → Prop}
theorem back_c (hT : TT K) (hK : KT K) (b : List UInt8) (hb : b.length ≤ 100000000) : ∃ (x : List It) (e : Int), (∀ h, Sp Tryd.prog K 15 [.sl 1 (bs b)] h fun u hh => u = .tup [.sl 10 (its x), .sc (.int .i64 e)] ∧ hh = h) ∧ (e ≠ 0 → x = []) ∧ (e = 0 → ∀ h, Sp Tryd.prog K 12 [.sl 10 (its x)] h fun u hh => u = .tup [.sl 1 (bs b), .sc (.int .i64 0)] ∧ hh = h) := by
  obtain ⟨x, e, ht⟩ : ∃ l e, takeI b = (l, e) := ⟨_, _, rfl⟩
  obtain ⟨b1, b2, b3⟩ := takeI_bd b
  have c1 := fun h => Sp.lift (stake_s hT hK b hb) (fun _ => rfl) (fun _ => rfl) h
  rw [ht] at c1 b1 b2 b3
  dsimp only [itsV] at c1 b1 b2 b3
  refine ⟨x, e, c1, fun he => ?_, fun he h => ?_⟩
  · have := takeI_err (b := b) (by rw [ht]; exact he)
    rwa [ht] at this
  · subst he
    have hp := (put_takeI ht).1
    have := Sp.lift (sputs_s hT hK x (by omega) b3 b2) (fun _ => rfl) (fun _ => rfl) h
    rwa [hp] at this
set_option maxRecDepth 100000 in
set_option maxHeartbeats 4000000 in
theorem scrback_s (hT : TT K) (hK : KT K) (aw0 : Sp Tryd.prog K 10 [] [] fun u hh => u = .sc (.bool true) ∧ hh = []) (l : List It) (b p : List UInt8) (hl : l.length ≤ 9223372036854775807) (hm : ∀ x ∈ l, ItM x) (hlen : LenI l) : Sp Tryd.prog K 5 [.sl 10 (its l), .sl 1 (bs b), .sl 1 (bs p)] [] fun u hh => u = .sc (.bool true) ∧ hh = [] := by
  have aw := fun h => Sp.lift aw0 (fun _ => rfl) (fun _ => rfl) h
  have cl := fun h => Sp.lift (large22_s (K := K) l hl) (fun _ => rfl) (fun _ => rfl) h
  by_cases h9 : largeI l = true ∨ 9000 < b.length ∨ 9000 < p.length
  · have cw := True.intro
    have k1 := True.intro
    have k2 := True.intro
    have k3 := True.intro
    have m1 := True.intro
    have m2 := True.intro
    have p1 := True.intro
    have co1 := True.intro
    have cs := True.intro
    have w : List UInt8 := []
    cases hb : largeI l with
    | true =>
      rw [hb] at cl
      clear h9
      refine Sp.of_bodyE Tryd.func5 rfl ?_
      intro Q hQ
      simp only [List.replicate, List.length_cons, List.length_nil, Tryd.ntmps5, Nat.reduceAdd, Nat.reduceSub, List.cons_append, List.nil_append, go_sem]
      have hz : True := trivial
      have hy := yieldedV_eq
      have hL := True.intro
      repeat' (first | (refine WPV.seqK ?_; intro N hN) | refine gA ?_ | (refine gR (M := noM) ?_; intro N hN ops hy) | (refine gD (M := noM) ?_; intro N hN; have hy := yieldedV_eq) | (refine WPV.condK ?_; intro A hA B hB) | (refine here ?_; refine sS ?_) | refine Both.mk ?_ ?_ | ((with_reducible refine CallO.gd 10 ?_); refine CallO.toB Tryd.call10 (aw _) ?_) | ((with_reducible refine CallO.gd 11 ?_); refine CallO.toB Tryd.call11 (cl _) ?_) | ((with_reducible refine CallP.gd 10 ?_); refine CallP.toB Tryd.call10 (aw _) ?_) | ((with_reducible refine CallP.gd 11 ?_); refine CallP.toB Tryd.call11 (cl _) ?_) | (refine hN _ ?_; try clear hN N; try clear hy ops) | (refine hA ?_; clear hA A hB B; try simp only [hz]) | (refine hB ?_; clear hA A hB B; try simp only [hz]) | (refine gG ?_ ?_ <;> (intro hz; have h := nm hz; try (exfalso; omega)) <;> (have hz := nz hz; try subst hz)) | (rw [if_pos (show _ ∧ _ from ⟨by omega, by omega⟩)]; refine sS ?_) | refine gT ?_ | (clear hN N))
      all_goals (first | exact retZ hQ Tryd.results5 (Desc.re [] rfl) | exact retZN hQ Tryd.results5 (Desc.re [] rfl))
    | false =>
      rw [hb] at cl h9
      have h9 : 9000 < b.length ∨ 9000 < p.length := by simpa using h9
      refine Sp.of_bodyE Tryd.func5 rfl ?_
      intro Q hQ
      simp only [List.replicate, List.length_cons, List.length_nil, Tryd.ntmps5, Nat.reduceAdd, Nat.reduceSub, List.cons_append, List.nil_append, go_sem]
      have hz : True := trivial
      have hy := yieldedV_eq
      have hL := True.intro
      repeat' (first | (refine WPV.seqK ?_; intro N hN) | refine gA ?_ | (refine gR (M := noM) ?_; intro N hN ops hy) | (refine gD (M := noM) ?_; intro N hN; have hy := yieldedV_eq) | (refine WPV.condK ?_; intro A hA B hB) | (refine here ?_; refine sS ?_) | refine Both.mk ?_ ?_ | ((with_reducible refine CallO.gd 10 ?_); refine CallO.toB Tryd.call10 (aw _) ?_) | ((with_reducible refine CallO.gd 11 ?_); refine CallO.toB Tryd.call11 (cl _) ?_) | ((with_reducible refine CallP.gd 10 ?_); refine CallP.toB Tryd.call10 (aw _) ?_) | ((with_reducible refine CallP.gd 11 ?_); refine CallP.toB Tryd.call11 (cl _) ?_) | (refine hN _ ?_; try clear hN N; try clear hy ops) | (refine hA ?_; clear hA A hB B; try simp only [hz]) | (refine hB ?_; clear hA A hB B; try simp only [hz]) | (refine gG ?_ ?_ <;> (intro hz; have h := nm hz; try (exfalso; omega)) <;> (have hz := nz hz; try subst hz)) | (rw [if_pos (show _ ∧ _ from ⟨by omega, by omega⟩)]; refine sS ?_) | refine gT ?_ | (clear hN N))
      all_goals (first | exact retZ hQ Tryd.results5 (Desc.re [] rfl) | exact retZN hQ Tryd.results5 (Desc.re [] rfl))
  have hb : largeI l = false := by
    cases h : largeI l
    · rfl
    · exact absurd (.inl h) h9
  have h9 : ¬ (9000 < b.length ∨ 9000 < p.length) := fun h => h9 (.inr h)
  rw [hb] at cl
  have l3 := large_no hb
  obtain ⟨w, e, hw⟩ : ∃ f e, wrapF p = (f, e) := ⟨_, _, rfl⟩
  have fl := wrapF_len p
  rw [hw] at fl
  dsimp only at fl
  have cw := fun h => Sp.lift (wrap_e (K := K) hK (by omega) hw) (fun _ => rfl) (fun _ => rfl) h
  obtain ⟨x1, e1, k1, n1, m1⟩ := back_c hT hK b (by omega)
  obtain ⟨x2, e2, k2, n2, m2⟩ := back_c hT hK w (by omega)
  obtain ⟨q, e3, hp⟩ : ∃ p e, putI l = (p, e) := ⟨_, _, rfl⟩
  have p1 := fun h => Sp.lift (sputs_s hT hK l hl hm hlen) (fun _ => rfl) (fun _ => rfl) h
  have p3 := putI_err (l := l)
  rw [hp] at p1 p3
  dsimp only [byV] at p1 p3
  have ql := putI_len hm
  rw [hp] at ql
  dsimp only at ql
  have k3 : e3 = 0 → ∀ h, Sp Tryd.prog K 15 [.sl 1 (bs q)] h fun u hh => u = .tup [.sl 10 (its l), .sc (.int .i64 0)] ∧ hh = h := fun he h => by
    subst he
    have := Sp.lift (stake_s hT hK q (by omega)) (fun _ => rfl) (fun _ => rfl) h
    rwa [take_putI hm hp] at this
  have co1 := fun h => own22_s (K := K) l (by omega) h
  have cs := fun h => Sp.lift (rsame22_s (K := K) l (by omega) hlen) (fun _ => rfl) (fun _ => rfl) h
  clear hw hp hb
  by_cases g3 : e3 = 0
  · subst g3
    have k3 := k3 rfl
    clear p3
    by_cases g1 : e1 = 0 <;> by_cases g2 : e2 = 0
    · subst g1
      subst g2
      have m1 := m1 rfl
      have m2 := m2 rfl
      clear n1 n2
      refine Sp.of_bodyE Tryd.func5 rfl ?_
      intro Q hQ
      simp only [List.replicate, List.length_cons, List.length_nil, Tryd.ntmps5, Nat.reduceAdd, Nat.reduceSub, List.cons_append, List.nil_append, go_sem]
      iterate 4
        all_goals try refine loopV ?_
        have hz : True := trivial
        have hy := yieldedV_eq
        have hL := True.intro
        repeat' (first | (refine WPV.seqK ?_; intro N hN) | refine gA ?_ | (refine gR (M := noM) ?_; intro N hN ops hy) | (refine gD (M := noM) ?_; intro N hN; have hy := yieldedV_eq) | (refine WPV.condK ?_; intro A hA B hB) | (refine here ?_; refine sS ?_) | refine Both.mk ?_ ?_ | ((with_reducible refine CallO.gd 10 ?_); refine CallO.toB Tryd.call10 (aw _) ?_) | ((with_reducible refine CallO.gd 11 ?_); refine CallO.toB Tryd.call11 (cl _) ?_) | ((with_reducible refine CallO.gd 23 ?_); refine CallO.toB Tryd.call23 (cw _) ?_) | ((with_reducible refine CallO.gd 15 ?_); first | refine CallO.toB Tryd.call15 (k1 _) ?_ | refine CallO.toB Tryd.call15 (k2 _) ?_ | refine CallO.toB Tryd.call15 (k3 _) ?_) | ((with_reducible refine CallO.gd 12 ?_); first | refine CallO.toB Tryd.call12 (m1 _) ?_ | refine CallO.toB Tryd.call12 (m2 _) ?_ | refine CallO.toB Tryd.call12 (p1 _) ?_) | ((with_reducible refine CallO.gd 14 ?_); refine CallO.toB Tryd.call14 (co1 _) ?_) | ((with_reducible refine CallO.gd 22 ?_); refine CallO.toB Tryd.call22 (cs _) ?_) | ((with_reducible refine CallO.gd 21 ?_); first | refine CallO.toB Tryd.call21 (fsame_t b _) ?_ | refine CallO.toB Tryd.call21 (fsame_t w _) ?_) | ((with_reducible refine CallP.gd 10 ?_); refine CallP.toB Tryd.call10 (aw _) ?_) | ((with_reducible refine CallP.gd 11 ?_); refine CallP.toB Tryd.call11 (cl _) ?_) | ((with_reducible refine CallP.gd 23 ?_); refine CallP.toB Tryd.call23 (cw _) ?_) | ((with_reducible refine CallP.gd 15 ?_); first | refine CallP.toB Tryd.call15 (k1 _) ?_ | refine CallP.toB Tryd.call15 (k2 _) ?_ | refine CallP.toB Tryd.call15 (k3 _) ?_) | ((with_reducible refine CallP.gd 12 ?_); first | refine CallP.toB Tryd.call12 (m1 _) ?_ | refine CallP.toB Tryd.call12 (m2 _) ?_ | refine CallP.toB Tryd.call12 (p1 _) ?_) | ((with_reducible refine CallP.gd 14 ?_); refine CallP.toB Tryd.call14 (co1 _) ?_) | ((with_reducible refine CallP.gd 22 ?_); refine CallP.toB Tryd.call22 (cs _) ?_) | ((with_reducible refine CallP.gd 21 ?_); first | refine CallP.toB Tryd.call21 (fsame_t b _) ?_ | refine CallP.toB Tryd.call21 (fsame_t w _) ?_) | (refine hN _ ?_; try clear hN N; try clear hy ops) | (refine hA ?_; clear hA A hB B; try simp only [hz]) | (refine hB ?_; clear hA A hB B; try simp only [hz]) | (refine gG ?_ ?_ <;> (intro hz; have h := nm hz; try (exfalso; omega)) <;> (have hz := nz hz; try subst hz)) | (rw [if_pos (show _ ∧ _ from ⟨by omega, by omega⟩)]; refine sS ?_) | refine gT ?_ | (clear hN N))
      all_goals (first | exact retZ hQ Tryd.results5 (Desc.re [] rfl) | exact retZN hQ Tryd.results5 (Desc.re [] rfl))
    · subst g1
      have m1 := m1 rfl
      have n2 := n2 g2
      subst n2
      have m2 := True.intro
      clear n1
      refine Sp.of_bodyE Tryd.func5 rfl ?_
      intro Q hQ
      simp only [List.replicate, List.length_cons, List.length_nil, Tryd.ntmps5, Nat.reduceAdd, Nat.reduceSub, List.cons_append, List.nil_append, go_sem]
      iterate 4
        all_goals try refine loopV ?_
        have hz : True := trivial
        have hy := yieldedV_eq
        have hL := True.intro
        repeat' (first | (refine WPV.seqK ?_; intro N hN) | refine gA ?_ | (refine gR (M := noM) ?_; intro N hN ops hy) | (refine gD (M := noM) ?_; intro N hN; have hy := yieldedV_eq) | (refine WPV.condK ?_; intro A hA B hB) | (refine here ?_; refine sS ?_) | refine Both.mk ?_ ?_ | ((with_reducible refine CallO.gd 10 ?_); refine CallO.toB Tryd.call10 (aw _) ?_) | ((with_reducible refine CallO.gd 11 ?_); refine CallO.toB Tryd.call11 (cl _) ?_) | ((with_reducible refine CallO.gd 23 ?_); refine CallO.toB Tryd.call23 (cw _) ?_) | ((with_reducible refine CallO.gd 15 ?_); first | refine CallO.toB Tryd.call15 (k1 _) ?_ | refine CallO.toB Tryd.call15 (k2 _) ?_ | refine CallO.toB Tryd.call15 (k3 _) ?_) | ((with_reducible refine CallO.gd 12 ?_); first | refine CallO.toB Tryd.call12 (m1 _) ?_ | refine CallO.toB Tryd.call12 (m2 _) ?_ | refine CallO.toB Tryd.call12 (p1 _) ?_) | ((with_reducible refine CallO.gd 14 ?_); refine CallO.toB Tryd.call14 (co1 _) ?_) | ((with_reducible refine CallO.gd 22 ?_); refine CallO.toB Tryd.call22 (cs _) ?_) | ((with_reducible refine CallO.gd 21 ?_); first | refine CallO.toB Tryd.call21 (fsame_t b _) ?_ | refine CallO.toB Tryd.call21 (fsame_t w _) ?_) | ((with_reducible refine CallP.gd 10 ?_); refine CallP.toB Tryd.call10 (aw _) ?_) | ((with_reducible refine CallP.gd 11 ?_); refine CallP.toB Tryd.call11 (cl _) ?_) | ((with_reducible refine CallP.gd 23 ?_); refine CallP.toB Tryd.call23 (cw _) ?_) | ((with_reducible refine CallP.gd 15 ?_); first | refine CallP.toB Tryd.call15 (k1 _) ?_ | refine CallP.toB Tryd.call15 (k2 _) ?_ | refine CallP.toB Tryd.call15 (k3 _) ?_) | ((with_reducible refine CallP.gd 12 ?_); first | refine CallP.toB Tryd.call12 (m1 _) ?_ | refine CallP.toB Tryd.call12 (m2 _) ?_ | refine CallP.toB Tryd.call12 (p1 _) ?_) | ((with_reducible refine CallP.gd 14 ?_); refine CallP.toB Tryd.call14 (co1 _) ?_) | ((with_reducible refine CallP.gd 22 ?_); refine CallP.toB Tryd.call22 (cs _) ?_) | ((with_reducible refine CallP.gd 21 ?_); first | refine CallP.toB Tryd.call21 (fsame_t b _) ?_ | refine CallP.toB Tryd.call21 (fsame_t w _) ?_) | (refine hN _ ?_; try clear hN N; try clear hy ops) | (refine hA ?_; clear hA A hB B; try simp only [hz]) | (refine hB ?_; clear hA A hB B; try simp only [hz]) | (refine gG ?_ ?_ <;> (intro hz; have h := nm hz; try (exfalso; omega)) <;> (have hz := nz hz; try subst hz)) | (rw [if_pos (show _ ∧ _ from ⟨by omega, by omega⟩)]; refine sS ?_) | refine gT ?_ | (clear hN N))
      all_goals (first | exact retZ hQ Tryd.results5 (Desc.re [] rfl) | exact retZN hQ Tryd.results5 (Desc.re [] rfl))
    · subst g2
      have m2 := m2 rfl
      have n1 := n1 g1
      subst n1
      have m1 := True.intro
      clear n2
      refine Sp.of_bodyE Tryd.func5 rfl ?_
      intro Q hQ
      simp only [List.replicate, List.length_cons, List.length_nil, Tryd.ntmps5, Nat.reduceAdd, Nat.reduceSub, List.cons_append, List.nil_append, go_sem]
      iterate 4
        all_goals try refine loopV ?_
        have hz : True := trivial
        have hy := yieldedV_eq
        have hL := True.intro
        repeat' (first | (refine WPV.seqK ?_; intro N hN) | refine gA ?_ | (refine gR (M := noM) ?_; intro N hN ops hy) | (refine gD (M := noM) ?_; intro N hN; have hy := yieldedV_eq) | (refine WPV.condK ?_; intro A hA B hB) | (refine here ?_; refine sS ?_) | refine Both.mk ?_ ?_ | ((with_reducible refine CallO.gd 10 ?_); refine CallO.toB Tryd.call10 (aw _) ?_) | ((with_reducible refine CallO.gd 11 ?_); refine CallO.toB Tryd.call11 (cl _) ?_) | ((with_reducible refine CallO.gd 23 ?_); refine CallO.toB Tryd.call23 (cw _) ?_) | ((with_reducible refine CallO.gd 15 ?_); first | refine CallO.toB Tryd.call15 (k1 _) ?_ | refine CallO.toB Tryd.call15 (k2 _) ?_ | refine CallO.toB Tryd.call15 (k3 _) ?_) | ((with_reducible refine CallO.gd 12 ?_); first | refine CallO.toB Tryd.call12 (m1 _) ?_ | refine CallO.toB Tryd.call12 (m2 _) ?_ | refine CallO.toB Tryd.call12 (p1 _) ?_) | ((with_reducible refine CallO.gd 14 ?_); refine CallO.toB Tryd.call14 (co1 _) ?_) | ((with_reducible refine CallO.gd 22 ?_); refine CallO.toB Tryd.call22 (cs _) ?_) | ((with_reducible refine CallO.gd 21 ?_); first | refine CallO.toB Tryd.call21 (fsame_t b _) ?_ | refine CallO.toB Tryd.call21 (fsame_t w _) ?_) | ((with_reducible refine CallP.gd 10 ?_); refine CallP.toB Tryd.call10 (aw _) ?_) | ((with_reducible refine CallP.gd 11 ?_); refine CallP.toB Tryd.call11 (cl _) ?_) | ((with_reducible refine CallP.gd 23 ?_); refine CallP.toB Tryd.call23 (cw _) ?_) | ((with_reducible refine CallP.gd 15 ?_); first | refine CallP.toB Tryd.call15 (k1 _) ?_ | refine CallP.toB Tryd.call15 (k2 _) ?_ | refine CallP.toB Tryd.call15 (k3 _) ?_) | ((with_reducible refine CallP.gd 12 ?_); first | refine CallP.toB Tryd.call12 (m1 _) ?_ | refine CallP.toB Tryd.call12 (m2 _) ?_ | refine CallP.toB Tryd.call12 (p1 _) ?_) | ((with_reducible refine CallP.gd 14 ?_); refine CallP.toB Tryd.call14 (co1 _) ?_) | ((with_reducible refine CallP.gd 22 ?_); refine CallP.toB Tryd.call22 (cs _) ?_) | ((with_reducible refine CallP.gd 21 ?_); first | refine CallP.toB Tryd.call21 (fsame_t b _) ?_ | refine CallP.toB Tryd.call21 (fsame_t w _) ?_) | (refine hN _ ?_; try clear hN N; try clear hy ops) | (refine hA ?_; clear hA A hB B; try simp only [hz]) | (refine hB ?_; clear hA A hB B; try simp only [hz]) | (refine gG ?_ ?_ <;> (intro hz; have h := nm hz; try (exfalso; omega)) <;> (have hz := nz hz; try subst hz)) | (rw [if_pos (show _ ∧ _ from ⟨by omega, by omega⟩)]; refine sS ?_) | refine gT ?_ | (clear hN N))
      all_goals (first | exact retZ hQ Tryd.results5 (Desc.re [] rfl) | exact retZN hQ Tryd.results5 (Desc.re [] rfl))
    · have n1 := n1 g1
      have n2 := n2 g2
      subst n1
      subst n2
      have m1 := True.intro
      have m2 := True.intro
      refine Sp.of_bodyE Tryd.func5 rfl ?_
      intro Q hQ
      simp only [List.replicate, List.length_cons, List.length_nil, Tryd.ntmps5, Nat.reduceAdd, Nat.reduceSub, List.cons_append, List.nil_append, go_sem]
      iterate 4
        all_goals try refine loopV ?_
        have hz : True := trivial
        have hy := yieldedV_eq
        have hL := True.intro
        repeat' (first | (refine WPV.seqK ?_; intro N hN) | refine gA ?_ | (refine gR (M := noM) ?_; intro N hN ops hy) | (refine gD (M := noM) ?_; intro N hN; have hy := yieldedV_eq) | (refine WPV.condK ?_; intro A hA B hB) | (refine here ?_; refine sS ?_) | refine Both.mk ?_ ?_ | ((with_reducible refine CallO.gd 10 ?_); refine CallO.toB Tryd.call10 (aw _) ?_) | ((with_reducible refine CallO.gd 11 ?_); refine CallO.toB Tryd.call11 (cl _) ?_) | ((with_reducible refine CallO.gd 23 ?_); refine CallO.toB Tryd.call23 (cw _) ?_) | ((with_reducible refine CallO.gd 15 ?_); first | refine CallO.toB Tryd.call15 (k1 _) ?_ | refine CallO.toB Tryd.call15 (k2 _) ?_ | refine CallO.toB Tryd.call15 (k3 _) ?_) | ((with_reducible refine CallO.gd 12 ?_); first | refine CallO.toB Tryd.call12 (m1 _) ?_ | refine CallO.toB Tryd.call12 (m2 _) ?_ | refine CallO.toB Tryd.call12 (p1 _) ?_) | ((with_reducible refine CallO.gd 14 ?_); refine CallO.toB Tryd.call14 (co1 _) ?_) | ((with_reducible refine CallO.gd 22 ?_); refine CallO.toB Tryd.call22 (cs _) ?_) | ((with_reducible refine CallO.gd 21 ?_); first | refine CallO.toB Tryd.call21 (fsame_t b _) ?_ | refine CallO.toB Tryd.call21 (fsame_t w _) ?_) | ((with_reducible refine CallP.gd 10 ?_); refine CallP.toB Tryd.call10 (aw _) ?_) | ((with_reducible refine CallP.gd 11 ?_); refine CallP.toB Tryd.call11 (cl _) ?_) | ((with_reducible refine CallP.gd 23 ?_); refine CallP.toB Tryd.call23 (cw _) ?_) | ((with_reducible refine CallP.gd 15 ?_); first | refine CallP.toB Tryd.call15 (k1 _) ?_ | refine CallP.toB Tryd.call15 (k2 _) ?_ | refine CallP.toB Tryd.call15 (k3 _) ?_) | ((with_reducible refine CallP.gd 12 ?_); first | refine CallP.toB Tryd.call12 (m1 _) ?_ | refine CallP.toB Tryd.call12 (m2 _) ?_ | refine CallP.toB Tryd.call12 (p1 _) ?_) | ((with_reducible refine CallP.gd 14 ?_); refine CallP.toB Tryd.call14 (co1 _) ?_) | ((with_reducible refine CallP.gd 22 ?_); refine CallP.toB Tryd.call22 (cs _) ?_) | ((with_reducible refine CallP.gd 21 ?_); first | refine CallP.toB Tryd.call21 (fsame_t b _) ?_ | refine CallP.toB Tryd.call21 (fsame_t w _) ?_) | (refine hN _ ?_; try clear hN N; try clear hy ops) | (refine hA ?_; clear hA A hB B; try simp only [hz]) | (refine hB ?_; clear hA A hB B; try simp only [hz]) | (refine gG ?_ ?_ <;> (intro hz; have h := nm hz; try (exfalso; omega)) <;> (have hz := nz hz; try subst hz)) | (rw [if_pos (show _ ∧ _ from ⟨by omega, by omega⟩)]; refine sS ?_) | refine gT ?_ | (clear hN N))
      all_goals (first | exact retZ hQ Tryd.results5 (Desc.re [] rfl) | exact retZN hQ Tryd.results5 (Desc.re [] rfl))
  · have p3 := p3 g3
    subst p3
    have k3 := True.intro
    by_cases g1 : e1 = 0 <;> by_cases g2 : e2 = 0
    · subst g1
      subst g2
      have m1 := m1 rfl
      have m2 := m2 rfl
      clear n1 n2
      refine Sp.of_bodyE Tryd.func5 rfl ?_
      intro Q hQ
      simp only [List.replicate, List.length_cons, List.length_nil, Tryd.ntmps5, Nat.reduceAdd, Nat.reduceSub, List.cons_append, List.nil_append, go_sem]
      iterate 4
        all_goals try refine loopV ?_
        have hz : True := trivial
        have hy := yieldedV_eq
        have hL := True.intro
        repeat' (first | (refine WPV.seqK ?_; intro N hN) | refine gA ?_ | (refine gR (M := noM) ?_; intro N hN ops hy) | (refine gD (M := noM) ?_; intro N hN; have hy := yieldedV_eq) | (refine WPV.condK ?_; intro A hA B hB) | (refine here ?_; refine sS ?_) | refine Both.mk ?_ ?_ | ((with_reducible refine CallO.gd 10 ?_); refine CallO.toB Tryd.call10 (aw _) ?_) | ((with_reducible refine CallO.gd 11 ?_); refine CallO.toB Tryd.call11 (cl _) ?_) | ((with_reducible refine CallO.gd 23 ?_); refine CallO.toB Tryd.call23 (cw _) ?_) | ((with_reducible refine CallO.gd 15 ?_); first | refine CallO.toB Tryd.call15 (k1 _) ?_ | refine CallO.toB Tryd.call15 (k2 _) ?_ | refine CallO.toB Tryd.call15 (k3 _) ?_) | ((with_reducible refine CallO.gd 12 ?_); first | refine CallO.toB Tryd.call12 (m1 _) ?_ | refine CallO.toB Tryd.call12 (m2 _) ?_ | refine CallO.toB Tryd.call12 (p1 _) ?_) | ((with_reducible refine CallO.gd 14 ?_); refine CallO.toB Tryd.call14 (co1 _) ?_) | ((with_reducible refine CallO.gd 22 ?_); refine CallO.toB Tryd.call22 (cs _) ?_) | ((with_reducible refine CallO.gd 21 ?_); first | refine CallO.toB Tryd.call21 (fsame_t b _) ?_ | refine CallO.toB Tryd.call21 (fsame_t w _) ?_) | ((with_reducible refine CallP.gd 10 ?_); refine CallP.toB Tryd.call10 (aw _) ?_) | ((with_reducible refine CallP.gd 11 ?_); refine CallP.toB Tryd.call11 (cl _) ?_) | ((with_reducible refine CallP.gd 23 ?_); refine CallP.toB Tryd.call23 (cw _) ?_) | ((with_reducible refine CallP.gd 15 ?_); first | refine CallP.toB Tryd.call15 (k1 _) ?_ | refine CallP.toB Tryd.call15 (k2 _) ?_ | refine CallP.toB Tryd.call15 (k3 _) ?_) | ((with_reducible refine CallP.gd 12 ?_); first | refine CallP.toB Tryd.call12 (m1 _) ?_ | refine CallP.toB Tryd.call12 (m2 _) ?_ | refine CallP.toB Tryd.call12 (p1 _) ?_) | ((with_reducible refine CallP.gd 14 ?_); refine CallP.toB Tryd.call14 (co1 _) ?_) | ((with_reducible refine CallP.gd 22 ?_); refine CallP.toB Tryd.call22 (cs _) ?_) | ((with_reducible refine CallP.gd 21 ?_); first | refine CallP.toB Tryd.call21 (fsame_t b _) ?_ | refine CallP.toB Tryd.call21 (fsame_t w _) ?_) | (refine hN _ ?_; try clear hN N; try clear hy ops) | (refine hA ?_; clear hA A hB B; try simp only [hz]) | (refine hB ?_; clear hA A hB B; try simp only [hz]) | (refine gG ?_ ?_ <;> (intro hz; have h := nm hz; try (exfalso; omega)) <;> (have hz := nz hz; try subst hz)) | (rw [if_pos (show _ ∧ _ from ⟨by omega, by omega⟩)]; refine sS ?_) | refine gT ?_ | (clear hN N))
      all_goals (first | exact retZ hQ Tryd.results5 (Desc.re [] rfl) | exact retZN hQ Tryd.results5 (Desc.re [] rfl))
    · subst g1
      have m1 := m1 rfl
      have n2 := n2 g2
      subst n2
      have m2 := True.intro
      clear n1
      refine Sp.of_bodyE Tryd.func5 rfl ?_
      intro Q hQ
      simp only [List.replicate, List.length_cons, List.length_nil, Tryd.ntmps5, Nat.reduceAdd, Nat.reduceSub, List.cons_append, List.nil_append, go_sem]
      iterate 4
        all_goals try refine loopV ?_
        have hz : True := trivial
        have hy := yieldedV_eq
        have hL := True.intro
        repeat' (first | (refine WPV.seqK ?_; intro N hN) | refine gA ?_ | (refine gR (M := noM) ?_; intro N hN ops hy) | (refine gD (M := noM) ?_; intro N hN; have hy := yieldedV_eq) | (refine WPV.condK ?_; intro A hA B hB) | (refine here ?_; refine sS ?_) | refine Both.mk ?_ ?_ | ((with_reducible refine CallO.gd 10 ?_); refine CallO.toB Tryd.call10 (aw _) ?_) | ((with_reducible refine CallO.gd 11 ?_); refine CallO.toB Tryd.call11 (cl _) ?_) | ((with_reducible refine CallO.gd 23 ?_); refine CallO.toB Tryd.call23 (cw _) ?_) | ((with_reducible refine CallO.gd 15 ?_); first | refine CallO.toB Tryd.call15 (k1 _) ?_ | refine CallO.toB Tryd.call15 (k2 _) ?_ | refine CallO.toB Tryd.call15 (k3 _) ?_) | ((with_reducible refine CallO.gd 12 ?_); first | refine CallO.toB Tryd.call12 (m1 _) ?_ | refine CallO.toB Tryd.call12 (m2 _) ?_ | refine CallO.toB Tryd.call12 (p1 _) ?_) | ((with_reducible refine CallO.gd 14 ?_); refine CallO.toB Tryd.call14 (co1 _) ?_) | ((with_reducible refine CallO.gd 22 ?_); refine CallO.toB Tryd.call22 (cs _) ?_) | ((with_reducible refine CallO.gd 21 ?_); first | refine CallO.toB Tryd.call21 (fsame_t b _) ?_ | refine CallO.toB Tryd.call21 (fsame_t w _) ?_) | ((with_reducible refine CallP.gd 10 ?_); refine CallP.toB Tryd.call10 (aw _) ?_) | ((with_reducible refine CallP.gd 11 ?_); refine CallP.toB Tryd.call11 (cl _) ?_) | ((with_reducible refine CallP.gd 23 ?_); refine CallP.toB Tryd.call23 (cw _) ?_) | ((with_reducible refine CallP.gd 15 ?_); first | refine CallP.toB Tryd.call15 (k1 _) ?_ | refine CallP.toB Tryd.call15 (k2 _) ?_ | refine CallP.toB Tryd.call15 (k3 _) ?_) | ((with_reducible refine CallP.gd 12 ?_); first | refine CallP.toB Tryd.call12 (m1 _) ?_ | refine CallP.toB Tryd.call12 (m2 _) ?_ | refine CallP.toB Tryd.call12 (p1 _) ?_) | ((with_reducible refine CallP.gd 14 ?_); refine CallP.toB Tryd.call14 (co1 _) ?_) | ((with_reducible refine CallP.gd 22 ?_); refine CallP.toB Tryd.call22 (cs _) ?_) | ((with_reducible refine CallP.gd 21 ?_); first | refine CallP.toB Tryd.call21 (fsame_t b _) ?_ | refine CallP.toB Tryd.call21 (fsame_t w _) ?_) | (refine hN _ ?_; try clear hN N; try clear hy ops) | (refine hA ?_; clear hA A hB B; try simp only [hz]) | (refine hB ?_; clear hA A hB B; try simp only [hz]) | (refine gG ?_ ?_ <;> (intro hz; have h := nm hz; try (exfalso; omega)) <;> (have hz := nz hz; try subst hz)) | (rw [if_pos (show _ ∧ _ from ⟨by omega, by omega⟩)]; refine sS ?_) | refine gT ?_ | (clear hN N))
      all_goals (first | exact retZ hQ Tryd.results5 (Desc.re [] rfl) | exact retZN hQ Tryd.results5 (Desc.re [] rfl))
    · subst g2
      have m2 := m2 rfl
      have n1 := n1 g1
      subst n1
      have m1 := True.intro
      clear n2
      refine Sp.of_bodyE Tryd.func5 rfl ?_
      intro Q hQ
      simp only [List.replicate, List.length_cons, List.length_nil, Tryd.ntmps5, Nat.reduceAdd, Nat.reduceSub, List.cons_append, List.nil_append, go_sem]
      iterate 4
        all_goals try refine loopV ?_
        have hz : True := trivial
        have hy := yieldedV_eq
        have hL := True.intro
        repeat' (first | (refine WPV.seqK ?_; intro N hN) | refine gA ?_ | (refine gR (M := noM) ?_; intro N hN ops hy) | (refine gD (M := noM) ?_; intro N hN; have hy := yieldedV_eq) | (refine WPV.condK ?_; intro A hA B hB) | (refine here ?_; refine sS ?_) | refine Both.mk ?_ ?_ | ((with_reducible refine CallO.gd 10 ?_); refine CallO.toB Tryd.call10 (aw _) ?_) | ((with_reducible refine CallO.gd 11 ?_); refine CallO.toB Tryd.call11 (cl _) ?_) | ((with_reducible refine CallO.gd 23 ?_); refine CallO.toB Tryd.call23 (cw _) ?_) | ((with_reducible refine CallO.gd 15 ?_); first | refine CallO.toB Tryd.call15 (k1 _) ?_ | refine CallO.toB Tryd.call15 (k2 _) ?_ | refine CallO.toB Tryd.call15 (k3 _) ?_) | ((with_reducible refine CallO.gd 12 ?_); first | refine CallO.toB Tryd.call12 (m1 _) ?_ | refine CallO.toB Tryd.call12 (m2 _) ?_ | refine CallO.toB Tryd.call12 (p1 _) ?_) | ((with_reducible refine CallO.gd 14 ?_); refine CallO.toB Tryd.call14 (co1 _) ?_) | ((with_reducible refine CallO.gd 22 ?_); refine CallO.toB Tryd.call22 (cs _) ?_) | ((with_reducible refine CallO.gd 21 ?_); first | refine CallO.toB Tryd.call21 (fsame_t b _) ?_ | refine CallO.toB Tryd.call21 (fsame_t w _) ?_) | ((with_reducible refine CallP.gd 10 ?_); refine CallP.toB Tryd.call10 (aw _) ?_) | ((with_reducible refine CallP.gd 11 ?_); refine CallP.toB Tryd.call11 (cl _) ?_) | ((with_reducible refine CallP.gd 23 ?_); refine CallP.toB Tryd.call23 (cw _) ?_) | ((with_reducible refine CallP.gd 15 ?_); first | refine CallP.toB Tryd.call15 (k1 _) ?_ | refine CallP.toB Tryd.call15 (k2 _) ?_ | refine CallP.toB Tryd.call15 (k3 _) ?_) | ((with_reducible refine CallP.gd 12 ?_); first | refine CallP.toB Tryd.call12 (m1 _) ?_ | refine CallP.toB Tryd.call12 (m2 _) ?_ | refine CallP.toB Tryd.call12 (p1 _) ?_) | ((with_reducible refine CallP.gd 14 ?_); refine CallP.toB Tryd.call14 (co1 _) ?_) | ((with_reducible refine CallP.gd 22 ?_); refine CallP.toB Tryd.call22 (cs _) ?_) | ((with_reducible refine CallP.gd 21 ?_); first | refine CallP.toB Tryd.call21 (fsame_t b _) ?_ | refine CallP.toB Tryd.call21 (fsame_t w _) ?_) | (refine hN _ ?_; try clear hN N; try clear hy ops) | (refine hA ?_; clear hA A hB B; try simp only [hz]) | (refine hB ?_; clear hA A hB B; try simp only [hz]) | (refine gG ?_ ?_ <;> (intro hz; have h := nm hz; try (exfalso; omega)) <;> (have hz := nz hz; try subst hz)) | (rw [if_pos (show _ ∧ _ from ⟨by omega, by omega⟩)]; refine sS ?_) | refine gT ?_ | (clear hN N))
      all_goals (first | exact retZ hQ Tryd.results5 (Desc.re [] rfl) | exact retZN hQ Tryd.results5 (Desc.re [] rfl))
    · have n1 := n1 g1
      have n2 := n2 g2
      subst n1
      subst n2
      have m1 := True.intro
      have m2 := True.intro
      refine Sp.of_bodyE Tryd.func5 rfl ?_
      intro Q hQ
      simp only [List.replicate, List.length_cons, List.length_nil, Tryd.ntmps5, Nat.reduceAdd, Nat.reduceSub, List.cons_append, List.nil_append, go_sem]
      iterate 4
        all_goals try refine loopV ?_
        have hz : True := trivial
        have hy := yieldedV_eq
        have hL := True.intro
        repeat' (first | (refine WPV.seqK ?_; intro N hN) | refine gA ?_ | (refine gR (M := noM) ?_; intro N hN ops hy) | (refine gD (M := noM) ?_; intro N hN; have hy := yieldedV_eq) | (refine WPV.condK ?_; intro A hA B hB) | (refine here ?_; refine sS ?_) | refine Both.mk ?_ ?_ | ((with_reducible refine CallO.gd 10 ?_); refine CallO.toB Tryd.call10 (aw _) ?_) | ((with_reducible refine CallO.gd 11 ?_); refine CallO.toB Tryd.call11 (cl _) ?_) | ((with_reducible refine CallO.gd 23 ?_); refine CallO.toB Tryd.call23 (cw _) ?_) | ((with_reducible refine CallO.gd 15 ?_); first | refine CallO.toB Tryd.call15 (k1 _) ?_ | refine CallO.toB Tryd.call15 (k2 _) ?_ | refine CallO.toB Tryd.call15 (k3 _) ?_) | ((with_reducible refine CallO.gd 12 ?_); first | refine CallO.toB Tryd.call12 (m1 _) ?_ | refine CallO.toB Tryd.call12 (m2 _) ?_ | refine CallO.toB Tryd.call12 (p1 _) ?_) | ((with_reducible refine CallO.gd 14 ?_); refine CallO.toB Tryd.call14 (co1 _) ?_) | ((with_reducible refine CallO.gd 22 ?_); refine CallO.toB Tryd.call22 (cs _) ?_) | ((with_reducible refine CallO.gd 21 ?_); first | refine CallO.toB Tryd.call21 (fsame_t b _) ?_ | refine CallO.toB Tryd.call21 (fsame_t w _) ?_) | ((with_reducible refine CallP.gd 10 ?_); refine CallP.toB Tryd.call10 (aw _) ?_) | ((with_reducible refine CallP.gd 11 ?_); refine CallP.toB Tryd.call11 (cl _) ?_) | ((with_reducible refine CallP.gd 23 ?_); refine CallP.toB Tryd.call23 (cw _) ?_) | ((with_reducible refine CallP.gd 15 ?_); first | refine CallP.toB Tryd.call15 (k1 _) ?_ | refine CallP.toB Tryd.call15 (k2 _) ?_ | refine CallP.toB Tryd.call15 (k3 _) ?_) | ((with_reducible refine CallP.gd 12 ?_); first | refine CallP.toB Tryd.call12 (m1 _) ?_ | refine CallP.toB Tryd.call12 (m2 _) ?_ | refine CallP.toB Tryd.call12 (p1 _) ?_) | ((with_reducible refine CallP.gd 14 ?_); refine CallP.toB Tryd.call14 (co1 _) ?_) | ((with_reducible refine CallP.gd 22 ?_); refine CallP.toB Tryd.call22 (cs _) ?_) | ((with_reducible refine CallP.gd 21 ?_); first | refine CallP.toB Tryd.call21 (fsame_t b _) ?_ | refine CallP.toB Tryd.call21 (fsame_t w _) ?_) | (refine hN _ ?_; try clear hN N; try clear hy ops) | (refine hA ?_; clear hA A hB B; try simp only [hz]) | (refine hB ?_; clear hA A hB B; try simp only [hz]) | (refine gG ?_ ?_ <;> (intro hz; have h := nm hz; try (exfalso; omega)) <;> (have hz := nz hz; try subst hz)) | (rw [if_pos (show _ ∧ _ from ⟨by omega, by omega⟩)]; refine sS ?_) | refine gT ?_ | (clear hN N))
      all_goals (first | exact retZ hQ Tryd.results5 (Desc.re [] rfl) | exact retZN hQ Tryd.results5 (Desc.re [] rfl))
end Go.Proofs.YtgfnpcmehnjopaaDoor
