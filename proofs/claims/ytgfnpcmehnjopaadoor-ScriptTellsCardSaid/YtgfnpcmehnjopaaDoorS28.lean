/- Parts of the proofs, joined: FrmX, ScrTe, ScrAv. -/
import Derived.Test.YtgfnpcmehnjopaaDoorS10
import Derived.Test.YtgfnpcmehnjopaaDoorS15
import Derived.Test.YtgfnpcmehnjopaaDoorS22
import Derived.Test.YtgfnpcmehnjopaaDoorS24
import Derived.Test.YtgfnpcmehnjopaaDoorS26
import Derived.Test.YtgfnpcmehnjopaaDoorS27
section
namespace Go.Proofs.YtgfnpcmehnjopaaDoor
section
open Go Go.RowKit
set_option linter.unusedVariables false
set_option linter.unusedSimpArgs false
variable {K : Nat → Obj → Prop}
def frmX : Runner := fun f vs h =>
  if f = 75 then match vs with
    | [v] => match bytesV v with
      | some l => if l.length ≤ 1000000000 then some (.sl 1 (bs l), h) else none
      | none => none
    | _ => none
  else crcX f vs h
theorem fsame_t (l : List UInt8) (h : List Ho) : Sp Tryd.prog K 21 [.sl 1 (bs l), .sl 1 (bs l)] h fun u hh => u = .sc (.bool true) ∧ hh = h := by
  simpa using vsame_s (K := K) l l h
end
end Go.Proofs.YtgfnpcmehnjopaaDoor
end
section
namespace Go.Proofs.YtgfnpcmehnjopaaDoor
open Go Go.RowKit
set_option linter.unusedVariables false
set_option linter.unusedSimpArgs false
variable {K : Nat → Obj → Prop}
theorem takeI_bd (b : List UInt8) : (takeI b).1.length ≤ 300 ∧ LenI (takeI b).1 ∧ ∀ x ∈ (takeI b).1, ItM x := by
  by_cases h : (takeI b).2 = 0
  · obtain ⟨_, h2, h3⟩ := put_takeI (b := b) (l := (takeI b).1) (by rw [← h])
    refine ⟨h2, fun x hx => ?_, fun x hx => (h3 x hx).2⟩
    have hc := checkI_ok (h3 x hx).1
    have hw := wok_of hc.2.2.2.2.2.2.2.1
    have hk := hc.2.2.2.2.2.2.2.2.2.1
    omega
  · rw [takeI_err h]
    exact ⟨by simp, fun x hx => by simp at hx, fun x hx => by simp at hx⟩
theorem sfrow_le (m : List (List UInt8)) : (frow m).length ≤ 9000 * m.length := by
  have := bflat_len (fun p => (wrapF p).1) 9000 m fun p _ => wrapF_len p
  rwa [List.flatMap_def] at this
theorem large_no {l : List It} (h : largeI l = false) : l.length ≤ 320 := by
  unfold largeI at h
  simp only [Bool.or_eq_false_iff, decide_eq_false_iff_not] at h
  omega
set_option maxRecDepth 100000 in
set_option maxHeartbeats 2000000 in
theorem scrrow_s (hT : TT K) (hK : KT K) (aw0 : Sp Tryd.prog K 10 [] [] fun u hh => u = .sc (.bool true) ∧ hh = []) (p : List UInt8) : Sp Tryd.prog K 4 [.sl 1 (bs p)] [] fun u hh => u = .sc (.bool true) ∧ hh = [] := by
  have aw := fun h => Sp.lift aw0 (fun _ => rfl) (fun _ => rfl) h
  by_cases h9 : 9000 < p.length
  · have cw := True.intro
    have c1 := True.intro
    have c2 := True.intro
    have co := True.intro
    have cs := True.intro
    refine Sp.of_bodyE Tryd.func4 rfl ?_
    intro Q hQ
    simp only [List.replicate, List.length_cons, List.length_nil, Tryd.ntmps4, Nat.reduceAdd, Nat.reduceSub, List.cons_append, List.nil_append, go_sem]
    have hz : True := trivial
    have hy := yieldedV_eq
    have hL := True.intro
    repeat' (first | (refine WPV.seqK ?_; intro N hN) | refine gA ?_ | (refine gR (M := noM) ?_; intro N hN ops hy) | (refine gD (M := noM) ?_; intro N hN; have hy := yieldedV_eq) | (refine WPV.condK ?_; intro A hA B hB) | (refine here ?_; refine sS ?_) | refine Both.mk ?_ ?_ | ((with_reducible refine CallO.gd 10 ?_); refine CallO.toB Tryd.call10 (aw _) ?_) | ((with_reducible refine CallO.gd 23 ?_); refine CallO.toB Tryd.call23 (cw _) ?_) | ((with_reducible refine CallO.gd 15 ?_); refine CallO.toB Tryd.call15 (c1 _) ?_) | ((with_reducible refine CallO.gd 16 ?_); refine CallO.toB Tryd.call16 (c2 _) ?_) | ((with_reducible refine CallO.gd 14 ?_); refine CallO.toB Tryd.call14 (co _) ?_) | ((with_reducible refine CallO.gd 22 ?_); refine CallO.toB Tryd.call22 (cs _) ?_) | ((with_reducible refine CallP.gd 10 ?_); refine CallP.toB Tryd.call10 (aw _) ?_) | ((with_reducible refine CallP.gd 23 ?_); refine CallP.toB Tryd.call23 (cw _) ?_) | ((with_reducible refine CallP.gd 15 ?_); refine CallP.toB Tryd.call15 (c1 _) ?_) | ((with_reducible refine CallP.gd 16 ?_); refine CallP.toB Tryd.call16 (c2 _) ?_) | ((with_reducible refine CallP.gd 14 ?_); refine CallP.toB Tryd.call14 (co _) ?_) | ((with_reducible refine CallP.gd 22 ?_); refine CallP.toB Tryd.call22 (cs _) ?_) | (refine hN _ ?_; try clear hN N; try clear hy ops) | (refine hA ?_; clear hA A hB B; try simp only [hz]) | (refine hB ?_; clear hA A hB B; try simp only [hz]) | (refine gG ?_ ?_ <;> (intro hz; have h := nm hz; try (exfalso; omega)) <;> (have hz := nz hz; try subst hz)) | (rw [if_pos (show _ ∧ _ from ⟨by omega, by omega⟩)]; refine sS ?_) | refine gT ?_ | (clear hN N))
    all_goals (first | exact retZ hQ Tryd.results4 (Desc.re [] rfl) | exact retZN hQ Tryd.results4 (Desc.re [] rfl))
  obtain ⟨f, e, hw⟩ : ∃ f e, wrapF p = (f, e) := ⟨_, _, rfl⟩
  have fl := wrapF_len p
  rw [hw] at fl
  dsimp only at fl
  have cw := fun h => Sp.lift (wrap_e (K := K) hK (by omega) hw) (fun _ => rfl) (fun _ => rfl) h
  obtain ⟨l, e2, ht⟩ : ∃ l e, takeI f = (l, e) := ⟨_, _, rfl⟩
  obtain ⟨b1, b2, _⟩ := takeI_bd f
  have c1 := fun h => Sp.lift (stake_s hT hK f (by omega)) (fun _ => rfl) (fun _ => rfl) h
  have c2 := fun h => Sp.lift (rtake22_s (K := K) f (by omega)) (fun _ => rfl) (fun _ => rfl) h
  rw [ht] at c1 c2 b1 b2
  dsimp only [itsV] at c1 c2 b1 b2
  have co := fun h => own22_s (K := K) l (by omega) h
  have cs := fun h => Sp.lift (rsame22_s (K := K) l (by omega) b2) (fun _ => rfl) (fun _ => rfl) h
  clear hw ht b2
  refine Sp.of_bodyE Tryd.func4 rfl ?_
  intro Q hQ
  simp only [List.replicate, List.length_cons, List.length_nil, Tryd.ntmps4, Nat.reduceAdd, Nat.reduceSub, List.cons_append, List.nil_append, go_sem]
  have hz : True := trivial
  have hy := yieldedV_eq
  have hL := True.intro
  repeat' (first | (refine WPV.seqK ?_; intro N hN) | refine gA ?_ | (refine gR (M := noM) ?_; intro N hN ops hy) | (refine gD (M := noM) ?_; intro N hN; have hy := yieldedV_eq) | (refine WPV.condK ?_; intro A hA B hB) | (refine here ?_; refine sS ?_) | refine Both.mk ?_ ?_ | ((with_reducible refine CallO.gd 10 ?_); refine CallO.toB Tryd.call10 (aw _) ?_) | ((with_reducible refine CallO.gd 23 ?_); refine CallO.toB Tryd.call23 (cw _) ?_) | ((with_reducible refine CallO.gd 15 ?_); refine CallO.toB Tryd.call15 (c1 _) ?_) | ((with_reducible refine CallO.gd 16 ?_); refine CallO.toB Tryd.call16 (c2 _) ?_) | ((with_reducible refine CallO.gd 14 ?_); refine CallO.toB Tryd.call14 (co _) ?_) | ((with_reducible refine CallO.gd 22 ?_); refine CallO.toB Tryd.call22 (cs _) ?_) | ((with_reducible refine CallP.gd 10 ?_); refine CallP.toB Tryd.call10 (aw _) ?_) | ((with_reducible refine CallP.gd 23 ?_); refine CallP.toB Tryd.call23 (cw _) ?_) | ((with_reducible refine CallP.gd 15 ?_); refine CallP.toB Tryd.call15 (c1 _) ?_) | ((with_reducible refine CallP.gd 16 ?_); refine CallP.toB Tryd.call16 (c2 _) ?_) | ((with_reducible refine CallP.gd 14 ?_); refine CallP.toB Tryd.call14 (co _) ?_) | ((with_reducible refine CallP.gd 22 ?_); refine CallP.toB Tryd.call22 (cs _) ?_) | (refine hN _ ?_; try clear hN N; try clear hy ops) | (refine hA ?_; clear hA A hB B; try simp only [hz]) | (refine hB ?_; clear hA A hB B; try simp only [hz]) | (refine gG ?_ ?_ <;> (intro hz; have h := nm hz; try (exfalso; omega)) <;> (have hz := nz hz; try subst hz)) | (rw [if_pos (show _ ∧ _ from ⟨by omega, by omega⟩)]; refine sS ?_) | refine gT ?_ | (clear hN N))
  all_goals (first | exact retZ hQ Tryd.results4 (Desc.re [] rfl) | exact retZN hQ Tryd.results4 (Desc.re [] rfl))
set_option maxRecDepth 100000 in
set_option maxHeartbeats 4000000 in
theorem scrtells_s (hT : TT K) (hK : KT K) (aw0 : Sp Tryd.prog K 10 [] [] fun u hh => u = .sc (.bool true) ∧ hh = []) (l : List It) (b : List UInt8) (hl : l.length ≤ 9223372036854775807) (hm : ∀ x ∈ l, ItM x) (hlen : LenI l) : Sp Tryd.prog K 3 [.sl 10 (its l), .sl 1 (bs b)] [] fun u hh => u = .sc (.bool true) ∧ hh = [] := by
  have aw := fun h => Sp.lift aw0 (fun _ => rfl) (fun _ => rfl) h
  have cl := fun h => Sp.lift (large22_s (K := K) l hl) (fun _ => rfl) (fun _ => rfl) h
  by_cases h9 : largeI l = true ∨ 9000 < b.length
  · have p1 := True.intro
    have p2 := True.intro
    have c1 := True.intro
    have c2 := True.intro
    have co1 := True.intro
    have co2 := True.intro
    have cs := True.intro
    have p : List UInt8 := []
    cases hb : largeI l with
    | true =>
      rw [hb] at cl
      clear h9
      refine Sp.of_bodyE Tryd.func3 rfl ?_
      intro Q hQ
      simp only [List.replicate, List.length_cons, List.length_nil, Tryd.ntmps3, Nat.reduceAdd, Nat.reduceSub, List.cons_append, List.nil_append, go_sem]
      have hz : True := trivial
      have hy := yieldedV_eq
      have hL := True.intro
      repeat' (first | (refine WPV.seqK ?_; intro N hN) | refine gA ?_ | (refine gR (M := noM) ?_; intro N hN ops hy) | (refine gD (M := noM) ?_; intro N hN; have hy := yieldedV_eq) | (refine WPV.condK ?_; intro A hA B hB) | (refine here ?_; refine sS ?_) | refine Both.mk ?_ ?_ | ((with_reducible refine CallO.gd 10 ?_); refine CallO.toB Tryd.call10 (aw _) ?_) | ((with_reducible refine CallO.gd 11 ?_); refine CallO.toB Tryd.call11 (cl _) ?_) | ((with_reducible refine CallO.gd 12 ?_); refine CallO.toB Tryd.call12 (p1 _) ?_) | ((with_reducible refine CallO.gd 13 ?_); refine CallO.toB Tryd.call13 (p2 _) ?_) | ((with_reducible refine CallO.gd 15 ?_); refine CallO.toB Tryd.call15 (c1 _) ?_) | ((with_reducible refine CallO.gd 16 ?_); refine CallO.toB Tryd.call16 (c2 _) ?_) | ((with_reducible refine CallO.gd 14 ?_); first | refine CallO.toB Tryd.call14 (co1 _) ?_ | refine CallO.toB Tryd.call14 (co2 _) ?_) | ((with_reducible refine CallO.gd 22 ?_); refine CallO.toB Tryd.call22 (cs _) ?_) | ((with_reducible refine CallO.gd 21 ?_); refine CallO.toB Tryd.call21 (fsame_t p _) ?_) | ((with_reducible refine CallP.gd 10 ?_); refine CallP.toB Tryd.call10 (aw _) ?_) | ((with_reducible refine CallP.gd 11 ?_); refine CallP.toB Tryd.call11 (cl _) ?_) | ((with_reducible refine CallP.gd 12 ?_); refine CallP.toB Tryd.call12 (p1 _) ?_) | ((with_reducible refine CallP.gd 13 ?_); refine CallP.toB Tryd.call13 (p2 _) ?_) | ((with_reducible refine CallP.gd 15 ?_); refine CallP.toB Tryd.call15 (c1 _) ?_) | ((with_reducible refine CallP.gd 16 ?_); refine CallP.toB Tryd.call16 (c2 _) ?_) | ((with_reducible refine CallP.gd 14 ?_); first | refine CallP.toB Tryd.call14 (co1 _) ?_ | refine CallP.toB Tryd.call14 (co2 _) ?_) | ((with_reducible refine CallP.gd 22 ?_); refine CallP.toB Tryd.call22 (cs _) ?_) | ((with_reducible refine CallP.gd 21 ?_); refine CallP.toB Tryd.call21 (fsame_t p _) ?_) | (refine hN _ ?_; try clear hN N; try clear hy ops) | (refine hA ?_; clear hA A hB B; try simp only [hz]) | (refine hB ?_; clear hA A hB B; try simp only [hz]) | (refine gG ?_ ?_ <;> (intro hz; have h := nm hz; try (exfalso; omega)) <;> (have hz := nz hz; try subst hz)) | (rw [if_pos (show _ ∧ _ from ⟨by omega, by omega⟩)]; refine sS ?_) | refine gT ?_ | (clear hN N))
      all_goals (first | exact retZ hQ Tryd.results3 (Desc.re [] rfl) | exact retZN hQ Tryd.results3 (Desc.re [] rfl))
    | false =>
      rw [hb] at cl h9
      have h9 : 9000 < b.length := by simpa using h9
      refine Sp.of_bodyE Tryd.func3 rfl ?_
      intro Q hQ
      simp only [List.replicate, List.length_cons, List.length_nil, Tryd.ntmps3, Nat.reduceAdd, Nat.reduceSub, List.cons_append, List.nil_append, go_sem]
      have hz : True := trivial
      have hy := yieldedV_eq
      have hL := True.intro
      repeat' (first | (refine WPV.seqK ?_; intro N hN) | refine gA ?_ | (refine gR (M := noM) ?_; intro N hN ops hy) | (refine gD (M := noM) ?_; intro N hN; have hy := yieldedV_eq) | (refine WPV.condK ?_; intro A hA B hB) | (refine here ?_; refine sS ?_) | refine Both.mk ?_ ?_ | ((with_reducible refine CallO.gd 10 ?_); refine CallO.toB Tryd.call10 (aw _) ?_) | ((with_reducible refine CallO.gd 11 ?_); refine CallO.toB Tryd.call11 (cl _) ?_) | ((with_reducible refine CallO.gd 12 ?_); refine CallO.toB Tryd.call12 (p1 _) ?_) | ((with_reducible refine CallO.gd 13 ?_); refine CallO.toB Tryd.call13 (p2 _) ?_) | ((with_reducible refine CallO.gd 15 ?_); refine CallO.toB Tryd.call15 (c1 _) ?_) | ((with_reducible refine CallO.gd 16 ?_); refine CallO.toB Tryd.call16 (c2 _) ?_) | ((with_reducible refine CallO.gd 14 ?_); first | refine CallO.toB Tryd.call14 (co1 _) ?_ | refine CallO.toB Tryd.call14 (co2 _) ?_) | ((with_reducible refine CallO.gd 22 ?_); refine CallO.toB Tryd.call22 (cs _) ?_) | ((with_reducible refine CallO.gd 21 ?_); refine CallO.toB Tryd.call21 (fsame_t p _) ?_) | ((with_reducible refine CallP.gd 10 ?_); refine CallP.toB Tryd.call10 (aw _) ?_) | ((with_reducible refine CallP.gd 11 ?_); refine CallP.toB Tryd.call11 (cl _) ?_) | ((with_reducible refine CallP.gd 12 ?_); refine CallP.toB Tryd.call12 (p1 _) ?_) | ((with_reducible refine CallP.gd 13 ?_); refine CallP.toB Tryd.call13 (p2 _) ?_) | ((with_reducible refine CallP.gd 15 ?_); refine CallP.toB Tryd.call15 (c1 _) ?_) | ((with_reducible refine CallP.gd 16 ?_); refine CallP.toB Tryd.call16 (c2 _) ?_) | ((with_reducible refine CallP.gd 14 ?_); first | refine CallP.toB Tryd.call14 (co1 _) ?_ | refine CallP.toB Tryd.call14 (co2 _) ?_) | ((with_reducible refine CallP.gd 22 ?_); refine CallP.toB Tryd.call22 (cs _) ?_) | ((with_reducible refine CallP.gd 21 ?_); refine CallP.toB Tryd.call21 (fsame_t p _) ?_) | (refine hN _ ?_; try clear hN N; try clear hy ops) | (refine hA ?_; clear hA A hB B; try simp only [hz]) | (refine hB ?_; clear hA A hB B; try simp only [hz]) | (refine gG ?_ ?_ <;> (intro hz; have h := nm hz; try (exfalso; omega)) <;> (have hz := nz hz; try subst hz)) | (rw [if_pos (show _ ∧ _ from ⟨by omega, by omega⟩)]; refine sS ?_) | refine gT ?_ | (clear hN N))
      all_goals (first | exact retZ hQ Tryd.results3 (Desc.re [] rfl) | exact retZN hQ Tryd.results3 (Desc.re [] rfl))
  have hb : largeI l = false := by
    cases h : largeI l
    · rfl
    · exact absurd (.inl h) h9
  have h9 : ¬ 9000 < b.length := fun h => h9 (.inr h)
  rw [hb] at cl
  have l3 := large_no hb
  obtain ⟨p, e, hp⟩ : ∃ p e, putI l = (p, e) := ⟨_, _, rfl⟩
  have p1 := fun h => Sp.lift (sputs_s hT hK l hl hm hlen) (fun _ => rfl) (fun _ => rfl) h
  have p2 := fun h => Sp.lift (rputs_s (K := K) l hl hm hlen) (fun _ => rfl) (fun _ => rfl) h
  rw [hp] at p1 p2
  obtain ⟨x, g, ht⟩ : ∃ l e, takeI b = (l, e) := ⟨_, _, rfl⟩
  obtain ⟨b1, b2, _⟩ := takeI_bd b
  have c1 := fun h => Sp.lift (stake_s hT hK b (by omega)) (fun _ => rfl) (fun _ => rfl) h
  have c2 := fun h => Sp.lift (rtake22_s (K := K) b (by omega)) (fun _ => rfl) (fun _ => rfl) h
  rw [ht] at c1 c2 b1 b2
  dsimp only [itsV, byV] at c1 c2 b1 b2 p1 p2
  have co1 := fun h => own22_s (K := K) l (by omega) h
  have co2 := fun h => own22_s (K := K) x (by omega) h
  have cs := fun h => Sp.lift (rsame22_s (K := K) x (by omega) b2) (fun _ => rfl) (fun _ => rfl) h
  clear hp ht b2 hb
  refine Sp.of_bodyE Tryd.func3 rfl ?_
  intro Q hQ
  simp only [List.replicate, List.length_cons, List.length_nil, Tryd.ntmps3, Nat.reduceAdd, Nat.reduceSub, List.cons_append, List.nil_append, go_sem]
  have hz : True := trivial
  have hy := yieldedV_eq
  have hL := True.intro
  repeat' (first | (refine WPV.seqK ?_; intro N hN) | refine gA ?_ | (refine gR (M := noM) ?_; intro N hN ops hy) | (refine gD (M := noM) ?_; intro N hN; have hy := yieldedV_eq) | (refine WPV.condK ?_; intro A hA B hB) | (refine here ?_; refine sS ?_) | refine Both.mk ?_ ?_ | ((with_reducible refine CallO.gd 10 ?_); refine CallO.toB Tryd.call10 (aw _) ?_) | ((with_reducible refine CallO.gd 11 ?_); refine CallO.toB Tryd.call11 (cl _) ?_) | ((with_reducible refine CallO.gd 12 ?_); refine CallO.toB Tryd.call12 (p1 _) ?_) | ((with_reducible refine CallO.gd 13 ?_); refine CallO.toB Tryd.call13 (p2 _) ?_) | ((with_reducible refine CallO.gd 15 ?_); refine CallO.toB Tryd.call15 (c1 _) ?_) | ((with_reducible refine CallO.gd 16 ?_); refine CallO.toB Tryd.call16 (c2 _) ?_) | ((with_reducible refine CallO.gd 14 ?_); first | refine CallO.toB Tryd.call14 (co1 _) ?_ | refine CallO.toB Tryd.call14 (co2 _) ?_) | ((with_reducible refine CallO.gd 22 ?_); refine CallO.toB Tryd.call22 (cs _) ?_) | ((with_reducible refine CallO.gd 21 ?_); refine CallO.toB Tryd.call21 (fsame_t p _) ?_) | ((with_reducible refine CallP.gd 10 ?_); refine CallP.toB Tryd.call10 (aw _) ?_) | ((with_reducible refine CallP.gd 11 ?_); refine CallP.toB Tryd.call11 (cl _) ?_) | ((with_reducible refine CallP.gd 12 ?_); refine CallP.toB Tryd.call12 (p1 _) ?_) | ((with_reducible refine CallP.gd 13 ?_); refine CallP.toB Tryd.call13 (p2 _) ?_) | ((with_reducible refine CallP.gd 15 ?_); refine CallP.toB Tryd.call15 (c1 _) ?_) | ((with_reducible refine CallP.gd 16 ?_); refine CallP.toB Tryd.call16 (c2 _) ?_) | ((with_reducible refine CallP.gd 14 ?_); first | refine CallP.toB Tryd.call14 (co1 _) ?_ | refine CallP.toB Tryd.call14 (co2 _) ?_) | ((with_reducible refine CallP.gd 22 ?_); refine CallP.toB Tryd.call22 (cs _) ?_) | ((with_reducible refine CallP.gd 21 ?_); refine CallP.toB Tryd.call21 (fsame_t p _) ?_) | (refine hN _ ?_; try clear hN N; try clear hy ops) | (refine hA ?_; clear hA A hB B; try simp only [hz]) | (refine hB ?_; clear hA A hB B; try simp only [hz]) | (refine gG ?_ ?_ <;> (intro hz; have h := nm hz; try (exfalso; omega)) <;> (have hz := nz hz; try subst hz)) | (rw [if_pos (show _ ∧ _ from ⟨by omega, by omega⟩)]; refine sS ?_) | refine gT ?_ | (clear hN N))
  refine WPV.loopW (α := Nat) (fun i => l.length - i) (fun i => ⟨[.sl 10 (its l), .sl 1 (bs b), .any, .any, .sc (.bool false), .sl 1 (bs p), .sc (.int .i64 e), .sl 1 (bs p), .sc (.int .i64 e), .sl 10 (its x), .sc (.int .i64 g), .sl 10 (its x), .sc (.int .i64 g), .any, .any, .any, .any, .any, .any, .any, .any, .any, .any, .any, .any, .any, .any, .any, .any, .any, .any, .any, .any, .any, .any, .any, .any, .any, .any, .any, .any, .any, .any, .any, .any, .sl 10 (its l), .sc (.int .i64 (l.length : Int)), .sc (.int .i64 ((i : Nat) : Int)), .any, .any, .any, .any, .any, .any, .any, .any, .any, .any, .any, .any, .any, .any, .any, .any, .any, .any, .any, .any, .any, .any, .any, .any, .any, .any, .any, .any, .any, .any, .any, .any, .any, .any, .any, .any, .any, .any, .any, .any, .any], []⟩) (fun i => i ≤ l.length) 0 Desc.weakA (Nat.zero_le _) (fun i hJ H => ?_)
  by_cases h : i < l.length
  · obtain ⟨y, hg⟩ : ∃ y, l[i] = y := ⟨_, rfl⟩
    have hget : l[i]? = some y := by rw [← hg]; exact List.getElem?_eq_getElem h
    obtain ⟨z, hg0⟩ : ∃ z, l[0]'(by omega) = z := ⟨_, rfl⟩
    have hget0 : l[0]? = some z := by rw [← hg0]; exact List.getElem?_eq_getElem (by omega)
    have y1 := hlen y (hg ▸ List.getElem_mem h)
    have y2 := hm y (hg ▸ List.getElem_mem h)
    have z1 := hlen z (hg0 ▸ List.getElem_mem (by omega))
    have k1 := fun h => Sp.lift (scheck_s hT y y1.1 y1.2) (fun _ => rfl) (fun _ => rfl) h
    have k2 := fun h => Sp.lift (rscheck_s (K := K) y y2.1 y1.1 y1.2) (fun _ => rfl) (fun _ => rfl) h
    have k3 := fun h => Sp.lift (ssame_s (K := K) y z y1 z1) (fun _ => rfl) (fun _ => rfl) h
    have k4 := fun h => Sp.lift (rone_s (K := K) y z y1 z1) (fun _ => rfl) (fun _ => rfl) h
    generalize sameF y z = sb at *
    generalize checkI y = ck at *
    have H' := H (i + 1) h (by omega)
    clear H hg hg0 y1 y2 z1 aw cl p1 p2 c1 c2 co1 co2 cs
    obtain ⟨d, o, n, a, m, ⟨cx, cy, cz⟩, w, k⟩ := y
    obtain ⟨d', o', n', a', m', ⟨cx', cy', cz'⟩, w', k'⟩ := z
    refine loopV ?_
    have hz : True := trivial
    have hy := yieldedV_eq
    have hL := And.intro @hget (@hget0)
    repeat' (first | (refine WPV.seqK ?_; intro N hN) | refine gA ?_ | (refine gR (M := noM) ?_; intro N hN ops hy) | (refine gD (M := noM) ?_; intro N hN; have hy := yieldedV_eq) | (refine WPV.condK ?_; intro A hA B hB) | (refine here ?_; refine sS ?_) | refine Both.mk ?_ ?_ | ((with_reducible refine CallO.gd 17 ?_); refine CallO.toB Tryd.call17 (k1 _) ?_) | ((with_reducible refine CallO.gd 18 ?_); refine CallO.toB Tryd.call18 (k2 _) ?_) | ((with_reducible refine CallO.gd 19 ?_); refine CallO.toB Tryd.call19 (k3 _) ?_) | ((with_reducible refine CallO.gd 20 ?_); refine CallO.toB Tryd.call20 (k4 _) ?_) | ((with_reducible refine CallP.gd 17 ?_); refine CallP.toB Tryd.call17 (k1 _) ?_) | ((with_reducible refine CallP.gd 18 ?_); refine CallP.toB Tryd.call18 (k2 _) ?_) | ((with_reducible refine CallP.gd 19 ?_); refine CallP.toB Tryd.call19 (k3 _) ?_) | ((with_reducible refine CallP.gd 20 ?_); refine CallP.toB Tryd.call20 (k4 _) ?_) | (refine hN _ ?_; try clear hN N; try clear hy ops) | (refine hA ?_; clear hA A hB B; try simp only [hz]) | (refine hB ?_; clear hA A hB B; try simp only [hz]) | (refine gG ?_ ?_ <;> (intro hz; have h := nm hz; try (exfalso; omega)) <;> (have hz := nz hz; try subst hz)) | (rw [if_pos (show _ ∧ _ from ⟨by omega, by omega⟩)]; refine sS ?_) | refine gT ?_ | (clear hN N))
    all_goals (exact rndZ (Desc.re [] rfl) (H'))
  obtain rfl : i = l.length := by omega
  clear H
  refine loopV ?_
  have hz : True := trivial
  have hy := yieldedV_eq
  have hL := True.intro
  repeat' (first | (refine WPV.seqK ?_; intro N hN) | refine gA ?_ | (refine gR (M := noM) ?_; intro N hN ops hy) | (refine gD (M := noM) ?_; intro N hN; have hy := yieldedV_eq) | (refine WPV.condK ?_; intro A hA B hB) | (refine here ?_; refine sS ?_) | refine Both.mk ?_ ?_ | ((with_reducible refine CallO.gd 14 ?_); refine CallO.toB Tryd.call14 (co2 _) ?_) | ((with_reducible refine CallO.gd 22 ?_); refine CallO.toB Tryd.call22 (cs _) ?_) | ((with_reducible refine CallO.gd 21 ?_); refine CallO.toB Tryd.call21 (fsame_t p _) ?_) | ((with_reducible refine CallP.gd 14 ?_); refine CallP.toB Tryd.call14 (co2 _) ?_) | ((with_reducible refine CallP.gd 22 ?_); refine CallP.toB Tryd.call22 (cs _) ?_) | ((with_reducible refine CallP.gd 21 ?_); refine CallP.toB Tryd.call21 (fsame_t p _) ?_) | (refine hN _ ?_; try clear hN N; try clear hy ops) | (refine hA ?_; clear hA A hB B; try simp only [hz]) | (refine hB ?_; clear hA A hB B; try simp only [hz]) | (refine gG ?_ ?_ <;> (intro hz; have h := nm hz; try (exfalso; omega)) <;> (have hz := nz hz; try subst hz)) | (rw [if_pos (show _ ∧ _ from ⟨by omega, by omega⟩)]; refine sS ?_) | refine gT ?_ | (clear hN N))
  all_goals (first | exact retZ hQ Tryd.results3 (Desc.re [] rfl) | exact retZN hQ Tryd.results3 (Desc.re [] rfl))
end Go.Proofs.YtgfnpcmehnjopaaDoor
end
section
namespace Go.Proofs.YtgfnpcmehnjopaaDoor
open Go Go.RowKit
set_option linter.unusedVariables false
set_option linter.unusedSimpArgs false
variable {K : Nat → Obj → Prop}
set_option maxRecDepth 100000 in
set_option maxHeartbeats 4000000 in
theorem rc14_s {L0 : List (List D)}
    (s1 : ∀ h, Sp Tryd.prog K 21 [.sl 1 (bs [6, 2, 9, 1]), .sl 1 [[.sc (.int .u8 6)], [.sc (.int .u8 2)], [.sc (.int .u8 9)], [.sc (.int .u8 1)]]] h fun u hh => u = .sc (.bool true) ∧ hh = h)
    (s2 : ∀ h, Sp Tryd.prog K 21 [.sl 1 (bs [0, 1, 6, 0, 0, 2, 1, 97, 2, 120, 1, 98, 0]), .sl 1 [[.sc (.int .u8 0)], [.sc (.int .u8 1)], [.sc (.int .u8 6)], [.sc (.int .u8 0)], [.sc (.int .u8 0)], [.sc (.int .u8 2)], [.sc (.int .u8 1)], [.sc (.int .u8 97)], [.sc (.int .u8 2)], [.sc (.int .u8 120)], [.sc (.int .u8 1)], [.sc (.int .u8 98)], [.sc (.int .u8 0)]]] h fun u hh => u = .sc (.bool true) ∧ hh = h)
    (s3 : ∀ h, Sp Tryd.prog K 21 [.sl 1 (bs [7, 3, 2, 0, 172, 2]), .sl 1 [[.sc (.int .u8 7)], [.sc (.int .u8 3)], [.sc (.int .u8 2)], [.sc (.int .u8 0)], [.sc (.int .u8 172)], [.sc (.int .u8 2)]]] h fun u hh => u = .sc (.bool true) ∧ hh = h)
    (k1 : ∀ h, Sp Tryd.prog K 17 [.agg [.sc (.int .i64 2), .sc (.int .i64 3), .sc (.int .i64 0), .sc (.int .i64 0), .sc (.int .u32 0), .sc (.int .i64 0), .sc (.int .i64 0), .sc (.int .i64 0), .sl 3 [], .sl 1 []]] h fun u hh => u = .sc (.int .i64 0) ∧ hh = h)
    (k2 : ∀ h, Sp Tryd.prog K 17 [.agg [.sc (.int .i64 2), .sc (.int .i64 0), .sc (.int .i64 1), .sc (.int .i64 0), .sc (.int .u32 0), .sc (.int .i64 0), .sc (.int .i64 0), .sc (.int .i64 0), .sl 3 [], .sl 1 []]] h fun u hh => u = .sc (.int .i64 1) ∧ hh = h)
    (k3 : ∀ h, Sp Tryd.prog K 19 [.agg [.sc (.int .i64 6), .sc (.int .i64 0), .sc (.int .i64 2), .sc (.int .i64 9), .sc (.int .u32 1), .sc (.int .i64 0), .sc (.int .i64 0), .sc (.int .i64 0), .sl 3 [], .sl 1 []], .agg [.sc (.int .i64 6), .sc (.int .i64 0), .sc (.int .i64 2), .sc (.int .i64 9), .sc (.int .u32 1), .sc (.int .i64 0), .sc (.int .i64 0), .sc (.int .i64 0), .sl 3 [], .sl 1 []]] h fun u hh => u = .sc (.bool true) ∧ hh = h)
    (k4 : ∀ h, Sp Tryd.prog K 19 [.agg [.sc (.int .i64 6), .sc (.int .i64 0), .sc (.int .i64 2), .sc (.int .i64 9), .sc (.int .u32 1), .sc (.int .i64 0), .sc (.int .i64 0), .sc (.int .i64 0), .sl 3 [], .sl 1 []], .agg [.sc (.int .i64 7), .sc (.int .i64 3), .sc (.int .i64 0), .sc (.int .i64 0), .sc (.int .u32 0), .sc (.int .i64 0), .sc (.int .i64 0), .sc (.int .i64 0), .sl 3 [], .sl 1 [[.sc (.int .i64 0)], [.sc (.int .i64 300)]]]] h fun u hh => u = .sc (.bool false) ∧ hh = h)
    (co : ∀ h, Sp Tryd.prog K 14 [.sl 10 L0] h fun u hh => u = .sl 10 L0 ∧ hh = h) (co2 : ∀ h, Sp Tryd.prog K 14 [.full 10 [[.sc (.int .i64 6), .sc (.int .i64 0), .sc (.int .i64 2), .sc (.int .i64 9), .sc (.int .u32 1), .sc (.int .i64 0), .sc (.int .i64 0), .sc (.int .i64 0), .sc (.slice none 0 0), .sc (.slice none 0 0)], [.sc (.int .i64 0), .sc (.int .i64 1), .sc (.int .i64 0), .sc (.int .i64 0), .sc (.int .u32 0), .sc (.int .i64 3), .sc (.int .i64 0), .sc (.int .i64 0), .sl 3 [[.sc (.string { data := #[97] }), .sc (.string { data := #[120] }), .sc (.bool false)], [.sc (.string { data := #[98] }), .sc (.string { data := #[] }), .sc (.bool true)]], .sc (.slice none 0 0)], [.sc (.int .i64 7), .sc (.int .i64 3), .sc (.int .i64 0), .sc (.int .i64 0), .sc (.int .u32 0), .sc (.int .i64 0), .sc (.int .i64 0), .sc (.int .i64 0), .sc (.slice none 0 0), .sl 1 [[.sc (.int .i64 0)], [.sc (.int .i64 300)]]]]] h fun u hh => u = .sl 10 L0 ∧ hh = h)
    (cs : ∀ h, Sp Tryd.prog K 22 [.sl 10 L0, .sl 10 L0] h fun u hh => u = .sc (.bool true) ∧ hh = h)
    (c : Code) (hc : (Tryd.f10.body.bind (regC 14)) = some c) {Q : Exit → Sv → Prop} (N : Sv → Prop) (hN : ∀ st, Desc K 0 st ⟨[.sc (.bool true), .any, .any, .any, .any, .any, .any, .any, .any, .any, .any, .any, .any, .any, .any, .any, .any, .any, .any, .any, .any, .any, .any, .any, .any, .any, .any, .any, .any, .any, .any, .any, .any, .any, .any, .any, .any, .any, .any, .any, .any, .any, .any, .any, .any, .any, .any, .any, .any, .any, .any, .any, .any, .any, .any, .any, .any, .any, .any, .any, .any, .any, .any, .any, .any, .any, .any, .any, .any, .any, .any, .any, .any, .any, .any, .any, .any, .any, .any, .any, .any, .any, .any, .any, .any, .any, .any, .any, .any, .any, .any, .any, .any, .any, .any, .any, .any, .any, .any, .any, .any, .any, .any, .any, .any, .any, .any, .any, .any, .any, .any, .any, .any, .any, .any, .any, .any, .any, .any, .any, .any, .any, .any, .any, .any, .any, .any, .any, .any, .any, .any, .any, .any, .any, .any, .any, .any, .any, .any, .any, .any, .any, .any, .any, .any, .any, .any, .any, .any], [.cells [.sc (.int .i64 6), .sc (.int .i64 0), .sc (.int .i64 2), .sc (.int .i64 9), .sc (.int .u32 1), .sc (.int .i64 0), .sc (.int .i64 0), .sc (.int .i64 0), .sc (.slice none 0 0), .sc (.slice none 0 0)], .cells [.sc (.int .i64 0), .sc (.int .i64 1), .sc (.int .i64 0), .sc (.int .i64 0), .sc (.int .u32 0), .sc (.int .i64 3), .sc (.int .i64 0), .sc (.int .i64 0), .sl 3 [[.sc (.string { data := #[97] }), .sc (.string { data := #[120] }), .sc (.bool false)], [.sc (.string { data := #[98] }), .sc (.string { data := #[] }), .sc (.bool true)]], .sc (.slice none 0 0)], .cells [.sc (.int .i64 7), .sc (.int .i64 3), .sc (.int .i64 0), .sc (.int .i64 0), .sc (.int .u32 0), .sc (.int .i64 0), .sc (.int .i64 0), .sc (.int .i64 0), .sc (.slice none 0 0), .sl 1 [[.sc (.int .i64 0)], [.sc (.int .i64 300)]]]]⟩ → N st) : WPV Tryd.prog K 0 c (thenV N Q) ⟨[.sc (.bool false), .ptr 0 0, .ptr 1 0, .ptr 2 0, .any, .sc (.int .i64 0), .sl 10 L0, .sc (.int .i64 0), .sl 1 (rs [[6, 2, 9, 1], [0, 1, 6, 0, 0, 2, 1, 97, 2, 120, 1, 98, 0], [7, 3, 2, 0, 172, 2]]), .any, .any, .any, .any, .any, .sc (.int .i64 3), .any, .sc (.int .i64 9), .any, .sc (.int .i64 2), .any, .any, .any, .any, .any, .any, .any, .any, .any, .any, .any, .any, .any, .any, .any, .any, .any, .any, .any, .any, .any, .any, .any, .any, .any, .any, .any, .any, .any, .any, .any, .any, .any, .any, .any, .any, .any, .any, .any, .any, .any, .any, .any, .any, .any, .any, .any, .any, .any, .any, .any, .any, .any, .any, .any, .any, .any, .any, .any, .sc (.bool false), .any, .any, .any, .any, .any, .any, .any, .any, .any, .any, .any, .any, .any, .any, .any, .any, .any, .any, .any, .any, .any, .any, .any, .any, .any, .any, .any, .any, .any, .any, .any, .any, .any, .any, .any, .any, .any, .any, .any, .any, .any, .any, .any, .any, .any, .any, .any, .any, .any, .any, .any, .any, .any, .any, .any, .any, .any, .any, .any, .any, .any, .any, .any, .any, .any, .any, .any, .any, .any, .any], [.cells [.sc (.int .i64 6), .sc (.int .i64 0), .sc (.int .i64 2), .sc (.int .i64 9), .sc (.int .u32 1), .sc (.int .i64 0), .sc (.int .i64 0), .sc (.int .i64 0), .sc (.slice none 0 0), .sc (.slice none 0 0)], .cells [.sc (.int .i64 0), .sc (.int .i64 1), .sc (.int .i64 0), .sc (.int .i64 0), .sc (.int .u32 0), .sc (.int .i64 3), .sc (.int .i64 0), .sc (.int .i64 0), .sl 3 [[.sc (.string { data := #[97] }), .sc (.string { data := #[120] }), .sc (.bool false)], [.sc (.string { data := #[98] }), .sc (.string { data := #[] }), .sc (.bool true)]], .sc (.slice none 0 0)], .cells [.sc (.int .i64 7), .sc (.int .i64 3), .sc (.int .i64 0), .sc (.int .i64 0), .sc (.int .u32 0), .sc (.int .i64 0), .sc (.int .i64 0), .sc (.int .i64 0), .sc (.slice none 0 0), .sl 1 [[.sc (.int .i64 0)], [.sc (.int .i64 300)]]]]⟩ := by
  simp only [Tryd.f10, Option.bind_some, regC, Nat.reduceEqDiff, if_false, if_true, reduceCtorEq] at hc
  cases hc
  have hz : True := trivial
  have hy := yieldedV_eq
  have hL := True.intro
  repeat' (first | (refine WPV.seqK ?_; intro N hN) | (refine And.intro (hO _ (by kernel_rfl)) ?_; clear hO) | refine gA ?_ | (refine gR (M := noM) ?_; intro N hN ops hy) | (refine gDG (M := noM) ?_; intro N hN ops hy hO) | (refine WPV.condK ?_; intro A hA B hB) | (refine here ?_; refine sN ?_) | refine Both.mk ?_ ?_ | ((with_reducible refine CallO.gd 21 ?_); first | refine CallO.toB Tryd.call21 (s1 _) ?_ | refine CallO.toB Tryd.call21 (s2 _) ?_ | refine CallO.toB Tryd.call21 (s3 _) ?_) | ((with_reducible refine CallO.gd 14 ?_); first | refine CallO.toB Tryd.call14 (co _) ?_ | refine CallO.toB Tryd.call14 (co2 _) ?_) | ((with_reducible refine CallO.gd 22 ?_); refine CallO.toB Tryd.call22 (cs _) ?_) | ((with_reducible refine CallO.gd 17 ?_); first | refine CallO.toB Tryd.call17 (k1 _) ?_ | refine CallO.toB Tryd.call17 (k2 _) ?_) | ((with_reducible refine CallO.gd 19 ?_); first | refine CallO.toB Tryd.call19 (k3 _) ?_ | refine CallO.toB Tryd.call19 (k4 _) ?_) | ((with_reducible refine CallP.gd 21 ?_); first | refine CallP.toB Tryd.call21 (s1 _) ?_ | refine CallP.toB Tryd.call21 (s2 _) ?_ | refine CallP.toB Tryd.call21 (s3 _) ?_) | ((with_reducible refine CallP.gd 14 ?_); first | refine CallP.toB Tryd.call14 (co _) ?_ | refine CallP.toB Tryd.call14 (co2 _) ?_) | ((with_reducible refine CallP.gd 22 ?_); refine CallP.toB Tryd.call22 (cs _) ?_) | ((with_reducible refine CallP.gd 17 ?_); first | refine CallP.toB Tryd.call17 (k1 _) ?_ | refine CallP.toB Tryd.call17 (k2 _) ?_) | ((with_reducible refine CallP.gd 19 ?_); first | refine CallP.toB Tryd.call19 (k3 _) ?_ | refine CallP.toB Tryd.call19 (k4 _) ?_) | (refine hN _ ?_; try clear hN N; try clear hy ops) | (refine hA ?_; clear hA A hB B; try simp only [hz]) | (refine hB ?_; clear hA A hB B; try simp only [hz]) | (refine gG ?_ ?_ <;> (intro hz; have h := nm hz; try (exfalso; omega)) <;> (have hz := nz hz; try subst hz)) | (rw [if_pos (show _ ∧ _ from ⟨by omega, by omega⟩)]; refine sN ?_) | refine gT ?_ | (clear hN N))
  all_goals exact jnZ
end Go.Proofs.YtgfnpcmehnjopaaDoor
end
