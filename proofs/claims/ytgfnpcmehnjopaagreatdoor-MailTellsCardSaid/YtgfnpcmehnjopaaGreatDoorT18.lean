/- Parts of the proofs, joined: MlrV, MalC, TxnV, TxnL, TxsL, MlrL, MalA, FrmA. -/
import Derived.Test.YtgfnpcmehnjopaaGreatDoorT2
import Derived.Test.YtgfnpcmehnjopaaGreatDoorT7
import Derived.Test.YtgfnpcmehnjopaaGreatDoorT8
import Derived.Test.YtgfnpcmehnjopaaGreatDoorT9
import Derived.Test.YtgfnpcmehnjopaaGreatDoorT10
import Derived.Test.YtgfnpcmehnjopaaGreatDoorT15
import Derived.Test.YtgfnpcmehnjopaaGreatDoorT16
import Derived.Test.YtgfnpcmehnjopaaGreatDoorT17
section
namespace Go.Proofs.YtgfnpcmehnjopaaGreatDoor
open Go Go.RowKit
set_option linter.unusedVariables false
set_option linter.unusedSimpArgs false
variable {K : Nat → Obj → Prop}
theorem ropen_s (l : List UInt8) (hl : l.length ≤ 1000000000) (h : List Ho) : Sp Tryz.prog K 25 [.sl 1 (bs l)] h fun u hh => u = .tup [.sl 1 (bs (openF l).1), .sc (.int .i64 (openF l).2)] ∧ hh = h :=
  .ofBE fun F φ w args hd => by
    obtain ⟨r, rfl, h1⟩ := args1 hd
    rw [← ropen_open]
    exact ropen_c r l w (den_in h1).sb hl
set_option maxRecDepth 100000 in
set_option maxHeartbeats 8000000 in
theorem rmtake_s (b : List UInt8) (hl : b.length ≤ 1000000) : Sp Tryz.prog K 9 [.sl 1 (bs b)] [] fun u hh => u = .tup [msgV (mtake b).1, .sc (.int .i64 (mtake b).2)] ∧ hh = [] := by
  obtain ⟨p, e, ho⟩ : ∃ p e, openF b = (p, e) := ⟨_, _, rfl⟩
  have co := fun h => ropen_s (K := K) b (by omega) h
  have hpl : p.length ≤ b.length := by
    have h := openF_len b
    rw [ho] at h; exact h
  rw [ho] at co
  dsimp only at co
  obtain ⟨u, n, e1, ht⟩ : ∃ u n e, tk p = (u, n, e) := ⟨_, _, _, rfl⟩
  obtain ⟨v, n2, e2, ht2⟩ : ∃ v n2 e2, tk (p.drop n) = (v, n2, e2) := ⟨_, _, _, rfl⟩
  have hm := tk_le p
  have hm2 := tk_le (p.drop n)
  rw [ht] at hm
  rw [ht2, List.length_drop] at hm2
  dsimp only at hm hm2
  have ct := fun h => vrtake_s (K := K) ht (by omega) h
  have ct2 := fun h => vrtake_s (K := K) ht2 (by rw [List.length_drop]; omega) h
  have hdl : (p.drop n).length = p.length - n := List.length_drop
  have hu64 := UInt64.toNat_lt u
  have hr2 := True.intro
  have hz2 := True.intro
  have cu := True.intro
  have cn := True.intro
  have cn2 := True.intro
  by_cases good : ¬ (e = 0 ∧ e1 = 0 ∧ (1 ≤ u.toNat ∧ u.toNat ≤ 3) ∧ e2 = 0 ∧ v.toNat < 3)
  · have e0 : mtake b = (.z, if e ≠ 0 then e else if e1 ≠ 0 then e1 else if u.toNat < 1 ∨ 3 < u.toNat then 3 else if e2 ≠ 0 then e2 else 9) := by
      unfold mtake
      rw [ho]
      dsimp only
      split
      · rfl
      unfold mread
      rw [ht]
      dsimp only
      split
      · rfl
      split
      · rfl
      rw [ht2]
      dsimp only
      split
      · rfl
      rw [if_pos (by omega)]
    rw [e0]
    clear e0 ht ht2 ho
    have hr := True.intro
    have hz1 := True.intro
    have cc := True.intro
    refine Sp.of_bodyE Tryz.func9 rfl ?_
    intro Q hQ
    simp only [List.replicate, List.length_cons, List.length_nil, Tryz.ntmps9, Nat.reduceAdd, Nat.reduceSub, List.cons_append, List.nil_append, go_sem]
    have hz : True := trivial
    have hy := yieldedV_eq
    have hL := And.intro @hz1 (And.intro @hr (And.intro @hz2 (@hr2)))
    repeat' (first | (refine WPV.seqK ?_; intro N hN) | (refine And.intro (hO _ (by kernel_rfl)) ?_; clear hO) | refine gA ?_ | (refine gR (M := noM) ?_; intro N hN ops hy) | (refine gDG (M := noM) ?_; intro N hN ops hy hO) | (refine WPV.condK ?_; intro A hA B hB) | (refine here ?_; refine sS ?_) | refine Both.mk ?_ ?_ | ((with_reducible refine CallO.gd 25 ?_); refine CallO.toB Tryz.call25 (co _) ?_) | ((with_reducible refine CallO.gd 26 ?_); first | refine CallO.toB Tryz.call26 (ct _) ?_ | refine CallO.toB Tryz.call26 (ct2 _) ?_) | ((with_reducible refine CallO.gd 27 ?_); refine CallO.frB [] Tryz.call27 (cu) ?_) | ((with_reducible refine CallO.gd 28 ?_); first | refine CallO.frB [] Tryz.call28 (cn) ?_ | refine CallO.frB [] Tryz.call28 (cn2) ?_) | ((with_reducible refine CallO.gd 13 ?_); refine CallO.frB [] Tryz.call13 (cc) ?_) | ((with_reducible refine CallP.gd 25 ?_); refine CallP.toB Tryz.call25 (co _) ?_) | ((with_reducible refine CallP.gd 26 ?_); first | refine CallP.toB Tryz.call26 (ct _) ?_ | refine CallP.toB Tryz.call26 (ct2 _) ?_) | ((with_reducible refine CallP.gd 27 ?_); refine CallP.frB [] 0 Tryz.call27 (cu) ?_) | ((with_reducible refine CallP.gd 28 ?_); first | refine CallP.frB [] 0 Tryz.call28 (cn) ?_ | refine CallP.frB [] 0 Tryz.call28 (cn2) ?_) | ((with_reducible refine CallP.gd 13 ?_); refine CallP.frB [] 0 Tryz.call13 (cc) ?_) | (refine hN _ ?_; try clear hN N; try clear hy ops) | (refine hA ?_; clear hA A hB B; try simp only [hz]) | (refine hB ?_; clear hA A hB B; try simp only [hz]) | (refine gG ?_ ?_ <;> (intro hz; have h := nm hz; try (exfalso; omega)) <;> (have hz := nz hz; try subst hz)) | (rw [if_pos (show _ ∧ _ from ⟨by omega, by omega⟩)]; refine sS ?_) | refine gT ?_ | (clear hN N))
    all_goals (try unfold Msg.z at hQ)
    all_goals (first | exact retZ hQ Tryz.results9 (Desc.re [] rfl) | exact retZN hQ Tryz.results9 (Desc.re [] rfl))
  obtain ⟨rfl, rfl, hu, rfl, hv⟩ := Decidable.not_not.1 good
  obtain ⟨r, hr⟩ : ∃ r, p.drop (n + n2) = r := ⟨_, rfl⟩
  have hr0 : (p.drop n).drop n2 = r := by rw [List.drop_drop, hr]
  have hrl : r.length = p.length - n - n2 := by rw [← hr0, List.length_drop, List.length_drop]
  have hz1 : ((n : Int) + (n2 : Int)).toNat = n + n2 := by omega
  have e0 : mtake b = if (mparts u.toNat v.toNat r).2 ≠ 0 then (.z, (mparts u.toNat v.toNat r).2) else if mchk (mparts u.toNat v.toNat r).1 ≠ 0 then (.z, mchk (mparts u.toNat v.toNat r).1) else ((mparts u.toNat v.toNat r).1, 0) := by
    unfold mtake; rw [ho]; dsimp only; rw [if_neg (by simp), mread_of ht rfl hu ht2 hr0 hv]
  rw [e0]
  clear e0 ho ht ht2 good hr0
  generalize u.toNat = un at *
  generalize v.toNat = vn at *
  have hbd := fun m h => mparts_bd (k := un) (o := vn) (r := r) (m := m) h
  rcases (show un = 1 ∨ un = 2 ∨ un = 3 by omega) with rfl | rfl | rfl
  · rw [show ((1 : Nat) : Int) = 1 from rfl] at ct
    have cu := runpack_s (K := K) r (by omega)
    obtain ⟨l, ee, hup⟩ : ∃ l e, unpackF r = (l, e) := ⟨_, _, rfl⟩
    rw [mparts1, hup] at hbd ⊢
    rw [hup] at cu
    clear hup
    dsimp only [upV] at cu hbd ⊢
    by_cases hee : ee ≠ 0
    · rw [if_pos hee]
      have cc := True.intro
      clear hbd
      refine Sp.of_bodyE Tryz.func9 rfl ?_
      intro Q hQ
      simp only [List.replicate, List.length_cons, List.length_nil, Tryz.ntmps9, Nat.reduceAdd, Nat.reduceSub, List.cons_append, List.nil_append, go_sem]
      have hz : True := trivial
      have hy := yieldedV_eq
      have hL := And.intro @hz1 (And.intro @hr (And.intro @hz2 (@hr2)))
      repeat' (first | (refine WPV.seqK ?_; intro N hN) | (refine And.intro (hO _ (by kernel_rfl)) ?_; clear hO) | refine gA ?_ | (refine gR (M := noM) ?_; intro N hN ops hy) | (refine gDG (M := noM) ?_; intro N hN ops hy hO) | (refine WPV.condK ?_; intro A hA B hB) | (refine here ?_; refine sS ?_) | refine Both.mk ?_ ?_ | ((with_reducible refine CallO.gd 25 ?_); refine CallO.toB Tryz.call25 (co _) ?_) | ((with_reducible refine CallO.gd 26 ?_); first | refine CallO.toB Tryz.call26 (ct _) ?_ | refine CallO.toB Tryz.call26 (ct2 _) ?_) | ((with_reducible refine CallO.gd 27 ?_); refine CallO.frB [] Tryz.call27 (cu) ?_) | ((with_reducible refine CallO.gd 28 ?_); first | refine CallO.frB [] Tryz.call28 (cn) ?_ | refine CallO.frB [] Tryz.call28 (cn2) ?_) | ((with_reducible refine CallO.gd 13 ?_); refine CallO.frB [] Tryz.call13 (cc) ?_) | ((with_reducible refine CallP.gd 25 ?_); refine CallP.toB Tryz.call25 (co _) ?_) | ((with_reducible refine CallP.gd 26 ?_); first | refine CallP.toB Tryz.call26 (ct _) ?_ | refine CallP.toB Tryz.call26 (ct2 _) ?_) | ((with_reducible refine CallP.gd 27 ?_); refine CallP.frB [] 0 Tryz.call27 (cu) ?_) | ((with_reducible refine CallP.gd 28 ?_); first | refine CallP.frB [] 0 Tryz.call28 (cn) ?_ | refine CallP.frB [] 0 Tryz.call28 (cn2) ?_) | ((with_reducible refine CallP.gd 13 ?_); refine CallP.frB [] 0 Tryz.call13 (cc) ?_) | (refine hN _ ?_; try clear hN N; try clear hy ops) | (refine hA ?_; clear hA A hB B; try simp only [hz]) | (refine hB ?_; clear hA A hB B; try simp only [hz]) | (refine gG ?_ ?_ <;> (intro hz; have h := nm hz; try (exfalso; omega)) <;> (have hz := nz hz; try subst hz)) | (rw [if_pos (show _ ∧ _ from ⟨by omega, by omega⟩)]; refine sS ?_) | refine gT ?_ | (clear hN N))
      all_goals (try unfold Msg.z at hQ)
      all_goals (first | exact retZ hQ Tryz.results9 (Desc.re [] rfl) | exact retZN hQ Tryz.results9 (Desc.re [] rfl))
    rw [if_neg hee]
    have hee := Decidable.not_not.1 hee
    subst hee
    obtain ⟨b4, bw⟩ := hbd _ rfl
    dsimp only at b4 bw
    have cc := rmchk_s (K := K) ⟨1, vn, 0, 0, l⟩ (by dsimp only; omega) (fun t ht => by have := bw t ht; omega)
    clear hbd bw
    generalize mchk ⟨1, vn, 0, 0, l⟩ = q at *
    refine Sp.of_bodyE Tryz.func9 rfl ?_
    intro Q hQ
    simp only [List.replicate, List.length_cons, List.length_nil, Tryz.ntmps9, Nat.reduceAdd, Nat.reduceSub, List.cons_append, List.nil_append, go_sem]
    have hz : True := trivial
    have hy := yieldedV_eq
    have hL := And.intro @hz1 (And.intro @hr (And.intro @hz2 (@hr2)))
    repeat' (first | (refine WPV.seqK ?_; intro N hN) | (refine And.intro (hO _ (by kernel_rfl)) ?_; clear hO) | refine gA ?_ | (refine gR (M := noM) ?_; intro N hN ops hy) | (refine gDG (M := noM) ?_; intro N hN ops hy hO) | (refine WPV.condK ?_; intro A hA B hB) | (refine here ?_; refine sS ?_) | refine Both.mk ?_ ?_ | ((with_reducible refine CallO.gd 25 ?_); refine CallO.toB Tryz.call25 (co _) ?_) | ((with_reducible refine CallO.gd 26 ?_); first | refine CallO.toB Tryz.call26 (ct _) ?_ | refine CallO.toB Tryz.call26 (ct2 _) ?_) | ((with_reducible refine CallO.gd 27 ?_); refine CallO.frB [] Tryz.call27 (cu) ?_) | ((with_reducible refine CallO.gd 28 ?_); first | refine CallO.frB [] Tryz.call28 (cn) ?_ | refine CallO.frB [] Tryz.call28 (cn2) ?_) | ((with_reducible refine CallO.gd 13 ?_); refine CallO.frB [] Tryz.call13 (cc) ?_) | ((with_reducible refine CallP.gd 25 ?_); refine CallP.toB Tryz.call25 (co _) ?_) | ((with_reducible refine CallP.gd 26 ?_); first | refine CallP.toB Tryz.call26 (ct _) ?_ | refine CallP.toB Tryz.call26 (ct2 _) ?_) | ((with_reducible refine CallP.gd 27 ?_); refine CallP.frB [] 0 Tryz.call27 (cu) ?_) | ((with_reducible refine CallP.gd 28 ?_); first | refine CallP.frB [] 0 Tryz.call28 (cn) ?_ | refine CallP.frB [] 0 Tryz.call28 (cn2) ?_) | ((with_reducible refine CallP.gd 13 ?_); refine CallP.frB [] 0 Tryz.call13 (cc) ?_) | (refine hN _ ?_; try clear hN N; try clear hy ops) | (refine hA ?_; clear hA A hB B; try simp only [hz]) | (refine hB ?_; clear hA A hB B; try simp only [hz]) | (refine gG ?_ ?_ <;> (intro hz; have h := nm hz; try (exfalso; omega)) <;> (have hz := nz hz; try subst hz)) | (rw [if_pos (show _ ∧ _ from ⟨by omega, by omega⟩)]; refine sS ?_) | refine gT ?_ | (clear hN N))
    all_goals (first | (rw [if_pos (show q ≠ 0 by omega)] at hQ; dsimp only [Msg.z] at hQ) | rw [if_neg (show ¬ q ≠ 0 by omega)] at hQ)
    all_goals (first | exact retZ hQ Tryz.results9 (Desc.re [] rfl) | exact retZN hQ Tryz.results9 (Desc.re [] rfl))
  · rw [show ((2 : Nat) : Int) = 2 from rfl] at ct
    clear cu cn hbd
    obtain ⟨x, k1, cn, hx⟩ := rnumber_s (K := K) r (by omega)
    rw [mparts2]
    obtain ⟨y, r1, e3, hn1⟩ : ∃ y r1 e, num1 r = (y, r1, e) := ⟨_, _, _, rfl⟩
    rw [hn1] at cn hx ⊢
    clear hn1
    dsimp only at cn hx ⊢
    by_cases h3 : e3 ≠ 0
    · rw [if_pos h3, if_pos h3]
      have cc := True.intro
      have cu := True.intro
      refine Sp.of_bodyE Tryz.func9 rfl ?_
      intro Q hQ
      simp only [List.replicate, List.length_cons, List.length_nil, Tryz.ntmps9, Nat.reduceAdd, Nat.reduceSub, List.cons_append, List.nil_append, go_sem]
      have hz : True := trivial
      have hy := yieldedV_eq
      have hL := And.intro @hz1 (And.intro @hr (And.intro @hz2 (@hr2)))
      repeat' (first | (refine WPV.seqK ?_; intro N hN) | (refine And.intro (hO _ (by kernel_rfl)) ?_; clear hO) | refine gA ?_ | (refine gR (M := noM) ?_; intro N hN ops hy) | (refine gDG (M := noM) ?_; intro N hN ops hy hO) | (refine WPV.condK ?_; intro A hA B hB) | (refine here ?_; refine sS ?_) | refine Both.mk ?_ ?_ | ((with_reducible refine CallO.gd 25 ?_); refine CallO.toB Tryz.call25 (co _) ?_) | ((with_reducible refine CallO.gd 26 ?_); first | refine CallO.toB Tryz.call26 (ct _) ?_ | refine CallO.toB Tryz.call26 (ct2 _) ?_) | ((with_reducible refine CallO.gd 27 ?_); refine CallO.frB [] Tryz.call27 (cu) ?_) | ((with_reducible refine CallO.gd 28 ?_); first | refine CallO.frB [] Tryz.call28 (cn) ?_ | refine CallO.frB [] Tryz.call28 (cn2) ?_) | ((with_reducible refine CallO.gd 13 ?_); refine CallO.frB [] Tryz.call13 (cc) ?_) | ((with_reducible refine CallP.gd 25 ?_); refine CallP.toB Tryz.call25 (co _) ?_) | ((with_reducible refine CallP.gd 26 ?_); first | refine CallP.toB Tryz.call26 (ct _) ?_ | refine CallP.toB Tryz.call26 (ct2 _) ?_) | ((with_reducible refine CallP.gd 27 ?_); refine CallP.frB [] 0 Tryz.call27 (cu) ?_) | ((with_reducible refine CallP.gd 28 ?_); first | refine CallP.frB [] 0 Tryz.call28 (cn) ?_ | refine CallP.frB [] 0 Tryz.call28 (cn2) ?_) | ((with_reducible refine CallP.gd 13 ?_); refine CallP.frB [] 0 Tryz.call13 (cc) ?_) | (refine hN _ ?_; try clear hN N; try clear hy ops) | (refine hA ?_; clear hA A hB B; try simp only [hz]) | (refine hB ?_; clear hA A hB B; try simp only [hz]) | (refine gG ?_ ?_ <;> (intro hz; have h := nm hz; try (exfalso; omega)) <;> (have hz := nz hz; try subst hz)) | (rw [if_pos (show _ ∧ _ from ⟨by omega, by omega⟩)]; refine sS ?_) | refine gT ?_ | (clear hN N))
      all_goals (try unfold Msg.z at hQ)
      all_goals (first | exact retZ hQ Tryz.results9 (Desc.re [] rfl) | exact retZN hQ Tryz.results9 (Desc.re [] rfl))
    rw [if_neg h3]
    have h3 := Decidable.not_not.1 h3
    subst h3
    obtain ⟨rfl, hk1, rfl⟩ := hx rfl
    have hdr : (r.drop k1).length = r.length - k1 := List.length_drop
    have cu := True.intro
    by_cases h5 : k1 < r.length
    · rw [if_pos (show r.drop k1 ≠ [] from List.length_pos_iff.1 (by omega))]
      dsimp only
      rw [if_pos (show (3 : Int) ≠ 0 by decide)]
      have cc := True.intro
      clear hx hdr
      refine Sp.of_bodyE Tryz.func9 rfl ?_
      intro Q hQ
      simp only [List.replicate, List.length_cons, List.length_nil, Tryz.ntmps9, Nat.reduceAdd, Nat.reduceSub, List.cons_append, List.nil_append, go_sem]
      have hz : True := trivial
      have hy := yieldedV_eq
      have hL := And.intro @hz1 (And.intro @hr (And.intro @hz2 (@hr2)))
      repeat' (first | (refine WPV.seqK ?_; intro N hN) | (refine And.intro (hO _ (by kernel_rfl)) ?_; clear hO) | refine gA ?_ | (refine gR (M := noM) ?_; intro N hN ops hy) | (refine gDG (M := noM) ?_; intro N hN ops hy hO) | (refine WPV.condK ?_; intro A hA B hB) | (refine here ?_; refine sS ?_) | refine Both.mk ?_ ?_ | ((with_reducible refine CallO.gd 25 ?_); refine CallO.toB Tryz.call25 (co _) ?_) | ((with_reducible refine CallO.gd 26 ?_); first | refine CallO.toB Tryz.call26 (ct _) ?_ | refine CallO.toB Tryz.call26 (ct2 _) ?_) | ((with_reducible refine CallO.gd 27 ?_); refine CallO.frB [] Tryz.call27 (cu) ?_) | ((with_reducible refine CallO.gd 28 ?_); first | refine CallO.frB [] Tryz.call28 (cn) ?_ | refine CallO.frB [] Tryz.call28 (cn2) ?_) | ((with_reducible refine CallO.gd 13 ?_); refine CallO.frB [] Tryz.call13 (cc) ?_) | ((with_reducible refine CallP.gd 25 ?_); refine CallP.toB Tryz.call25 (co _) ?_) | ((with_reducible refine CallP.gd 26 ?_); first | refine CallP.toB Tryz.call26 (ct _) ?_ | refine CallP.toB Tryz.call26 (ct2 _) ?_) | ((with_reducible refine CallP.gd 27 ?_); refine CallP.frB [] 0 Tryz.call27 (cu) ?_) | ((with_reducible refine CallP.gd 28 ?_); first | refine CallP.frB [] 0 Tryz.call28 (cn) ?_ | refine CallP.frB [] 0 Tryz.call28 (cn2) ?_) | ((with_reducible refine CallP.gd 13 ?_); refine CallP.frB [] 0 Tryz.call13 (cc) ?_) | (refine hN _ ?_; try clear hN N; try clear hy ops) | (refine hA ?_; clear hA A hB B; try simp only [hz]) | (refine hB ?_; clear hA A hB B; try simp only [hz]) | (refine gG ?_ ?_ <;> (intro hz; have h := nm hz; try (exfalso; omega)) <;> (have hz := nz hz; try subst hz)) | (rw [if_pos (show _ ∧ _ from ⟨by omega, by omega⟩)]; refine sS ?_) | refine gT ?_ | (clear hN N))
      all_goals (try unfold Msg.z at hQ)
      all_goals (first | exact retZ hQ Tryz.results9 (Desc.re [] rfl) | exact retZN hQ Tryz.results9 (Desc.re [] rfl))
    rw [if_neg (show ¬ r.drop k1 ≠ [] from fun h => by have := List.length_pos_iff.2 h; omega)]
    dsimp only
    rw [if_neg (show ¬ (0 : Int) ≠ 0 by decide)]
    clear hx hdr
    have cc := rmchk_s (K := K) ⟨2, vn, 0, y, []⟩ (Nat.zero_le _) (by simp)
    generalize mchk ⟨2, vn, 0, y, []⟩ = q at *
    refine Sp.of_bodyE Tryz.func9 rfl ?_
    intro Q hQ
    simp only [List.replicate, List.length_cons, List.length_nil, Tryz.ntmps9, Nat.reduceAdd, Nat.reduceSub, List.cons_append, List.nil_append, go_sem]
    have hz : True := trivial
    have hy := yieldedV_eq
    have hL := And.intro @hz1 (And.intro @hr (And.intro @hz2 (@hr2)))
    repeat' (first | (refine WPV.seqK ?_; intro N hN) | (refine And.intro (hO _ (by kernel_rfl)) ?_; clear hO) | refine gA ?_ | (refine gR (M := noM) ?_; intro N hN ops hy) | (refine gDG (M := noM) ?_; intro N hN ops hy hO) | (refine WPV.condK ?_; intro A hA B hB) | (refine here ?_; refine sS ?_) | refine Both.mk ?_ ?_ | ((with_reducible refine CallO.gd 25 ?_); refine CallO.toB Tryz.call25 (co _) ?_) | ((with_reducible refine CallO.gd 26 ?_); first | refine CallO.toB Tryz.call26 (ct _) ?_ | refine CallO.toB Tryz.call26 (ct2 _) ?_) | ((with_reducible refine CallO.gd 27 ?_); refine CallO.frB [] Tryz.call27 (cu) ?_) | ((with_reducible refine CallO.gd 28 ?_); first | refine CallO.frB [] Tryz.call28 (cn) ?_ | refine CallO.frB [] Tryz.call28 (cn2) ?_) | ((with_reducible refine CallO.gd 13 ?_); refine CallO.frB [] Tryz.call13 (cc) ?_) | ((with_reducible refine CallP.gd 25 ?_); refine CallP.toB Tryz.call25 (co _) ?_) | ((with_reducible refine CallP.gd 26 ?_); first | refine CallP.toB Tryz.call26 (ct _) ?_ | refine CallP.toB Tryz.call26 (ct2 _) ?_) | ((with_reducible refine CallP.gd 27 ?_); refine CallP.frB [] 0 Tryz.call27 (cu) ?_) | ((with_reducible refine CallP.gd 28 ?_); first | refine CallP.frB [] 0 Tryz.call28 (cn) ?_ | refine CallP.frB [] 0 Tryz.call28 (cn2) ?_) | ((with_reducible refine CallP.gd 13 ?_); refine CallP.frB [] 0 Tryz.call13 (cc) ?_) | (refine hN _ ?_; try clear hN N; try clear hy ops) | (refine hA ?_; clear hA A hB B; try simp only [hz]) | (refine hB ?_; clear hA A hB B; try simp only [hz]) | (refine gG ?_ ?_ <;> (intro hz; have h := nm hz; try (exfalso; omega)) <;> (have hz := nz hz; try subst hz)) | (rw [if_pos (show _ ∧ _ from ⟨by omega, by omega⟩)]; refine sS ?_) | refine gT ?_ | (clear hN N))
    all_goals (first | (rw [if_pos (show q ≠ 0 by omega)] at hQ; dsimp only [Msg.z] at hQ) | rw [if_neg (show ¬ q ≠ 0 by omega)] at hQ)
    all_goals (first | exact retZ hQ Tryz.results9 (Desc.re [] rfl) | exact retZN hQ Tryz.results9 (Desc.re [] rfl))
  · rw [show ((3 : Nat) : Int) = 3 from rfl] at ct
    clear cu cn hbd
    have cu := True.intro
    obtain ⟨x, k1, cn, hx⟩ := rnumber_s (K := K) r (by omega)
    rw [mparts3]
    obtain ⟨y, r1, e3, hn1⟩ : ∃ y r1 e, num1 r = (y, r1, e) := ⟨_, _, _, rfl⟩
    rw [hn1] at cn hx ⊢
    clear hn1
    dsimp only at cn hx ⊢
    by_cases h3 : e3 ≠ 0
    · rw [if_pos h3, if_pos h3]
      have cc := True.intro
      refine Sp.of_bodyE Tryz.func9 rfl ?_
      intro Q hQ
      simp only [List.replicate, List.length_cons, List.length_nil, Tryz.ntmps9, Nat.reduceAdd, Nat.reduceSub, List.cons_append, List.nil_append, go_sem]
      have hz : True := trivial
      have hy := yieldedV_eq
      have hL := And.intro @hz1 (And.intro @hr (And.intro @hz2 (@hr2)))
      repeat' (first | (refine WPV.seqK ?_; intro N hN) | (refine And.intro (hO _ (by kernel_rfl)) ?_; clear hO) | refine gA ?_ | (refine gR (M := noM) ?_; intro N hN ops hy) | (refine gDG (M := noM) ?_; intro N hN ops hy hO) | (refine WPV.condK ?_; intro A hA B hB) | (refine here ?_; refine sS ?_) | refine Both.mk ?_ ?_ | ((with_reducible refine CallO.gd 25 ?_); refine CallO.toB Tryz.call25 (co _) ?_) | ((with_reducible refine CallO.gd 26 ?_); first | refine CallO.toB Tryz.call26 (ct _) ?_ | refine CallO.toB Tryz.call26 (ct2 _) ?_) | ((with_reducible refine CallO.gd 27 ?_); refine CallO.frB [] Tryz.call27 (cu) ?_) | ((with_reducible refine CallO.gd 28 ?_); first | refine CallO.frB [] Tryz.call28 (cn) ?_ | refine CallO.frB [] Tryz.call28 (cn2) ?_) | ((with_reducible refine CallO.gd 13 ?_); refine CallO.frB [] Tryz.call13 (cc) ?_) | ((with_reducible refine CallP.gd 25 ?_); refine CallP.toB Tryz.call25 (co _) ?_) | ((with_reducible refine CallP.gd 26 ?_); first | refine CallP.toB Tryz.call26 (ct _) ?_ | refine CallP.toB Tryz.call26 (ct2 _) ?_) | ((with_reducible refine CallP.gd 27 ?_); refine CallP.frB [] 0 Tryz.call27 (cu) ?_) | ((with_reducible refine CallP.gd 28 ?_); first | refine CallP.frB [] 0 Tryz.call28 (cn) ?_ | refine CallP.frB [] 0 Tryz.call28 (cn2) ?_) | ((with_reducible refine CallP.gd 13 ?_); refine CallP.frB [] 0 Tryz.call13 (cc) ?_) | (refine hN _ ?_; try clear hN N; try clear hy ops) | (refine hA ?_; clear hA A hB B; try simp only [hz]) | (refine hB ?_; clear hA A hB B; try simp only [hz]) | (refine gG ?_ ?_ <;> (intro hz; have h := nm hz; try (exfalso; omega)) <;> (have hz := nz hz; try subst hz)) | (rw [if_pos (show _ ∧ _ from ⟨by omega, by omega⟩)]; refine sS ?_) | refine gT ?_ | (clear hN N))
      all_goals (try unfold Msg.z at hQ)
      all_goals (first | exact retZ hQ Tryz.results9 (Desc.re [] rfl) | exact retZN hQ Tryz.results9 (Desc.re [] rfl))
    rw [if_neg h3]
    have h3 := Decidable.not_not.1 h3
    subst h3
    obtain ⟨rfl, hk1, rfl⟩ := hx rfl
    clear hx cn2 hr2 hz2
    have hz2 : ((n : Int) + (n2 : Int) + (k1 : Int)).toNat = n + n2 + k1 := by omega
    obtain ⟨r2, hr2⟩ : ∃ r, p.drop (n + n2 + k1) = r := ⟨_, rfl⟩
    have hr3 : r.drop k1 = r2 := by rw [← hr, List.drop_drop, hr2]
    have hrl2 : r2.length = r.length - k1 := by rw [← hr3, List.length_drop]
    rw [hr3]
    obtain ⟨x2, k2, cn2, hx2⟩ := rnumber_s (K := K) r2 (by omega)
    obtain ⟨y2, r4, e4, hn2⟩ : ∃ y r1 e, num1 r2 = (y, r1, e) := ⟨_, _, _, rfl⟩
    rw [hn2] at cn2 hx2 ⊢
    clear hn2 hr3
    dsimp only at cn2 hx2 ⊢
    by_cases h4 : e4 ≠ 0
    · rw [if_pos h4, if_pos h4]
      have cc := True.intro
      clear hx2
      refine Sp.of_bodyE Tryz.func9 rfl ?_
      intro Q hQ
      simp only [List.replicate, List.length_cons, List.length_nil, Tryz.ntmps9, Nat.reduceAdd, Nat.reduceSub, List.cons_append, List.nil_append, go_sem]
      have hz : True := trivial
      have hy := yieldedV_eq
      have hL := And.intro @hz1 (And.intro @hr (And.intro @hz2 (@hr2)))
      repeat' (first | (refine WPV.seqK ?_; intro N hN) | (refine And.intro (hO _ (by kernel_rfl)) ?_; clear hO) | refine gA ?_ | (refine gR (M := noM) ?_; intro N hN ops hy) | (refine gDG (M := noM) ?_; intro N hN ops hy hO) | (refine WPV.condK ?_; intro A hA B hB) | (refine here ?_; refine sS ?_) | refine Both.mk ?_ ?_ | ((with_reducible refine CallO.gd 25 ?_); refine CallO.toB Tryz.call25 (co _) ?_) | ((with_reducible refine CallO.gd 26 ?_); first | refine CallO.toB Tryz.call26 (ct _) ?_ | refine CallO.toB Tryz.call26 (ct2 _) ?_) | ((with_reducible refine CallO.gd 27 ?_); refine CallO.frB [] Tryz.call27 (cu) ?_) | ((with_reducible refine CallO.gd 28 ?_); first | refine CallO.frB [] Tryz.call28 (cn) ?_ | refine CallO.frB [] Tryz.call28 (cn2) ?_) | ((with_reducible refine CallO.gd 13 ?_); refine CallO.frB [] Tryz.call13 (cc) ?_) | ((with_reducible refine CallP.gd 25 ?_); refine CallP.toB Tryz.call25 (co _) ?_) | ((with_reducible refine CallP.gd 26 ?_); first | refine CallP.toB Tryz.call26 (ct _) ?_ | refine CallP.toB Tryz.call26 (ct2 _) ?_) | ((with_reducible refine CallP.gd 27 ?_); refine CallP.frB [] 0 Tryz.call27 (cu) ?_) | ((with_reducible refine CallP.gd 28 ?_); first | refine CallP.frB [] 0 Tryz.call28 (cn) ?_ | refine CallP.frB [] 0 Tryz.call28 (cn2) ?_) | ((with_reducible refine CallP.gd 13 ?_); refine CallP.frB [] 0 Tryz.call13 (cc) ?_) | (refine hN _ ?_; try clear hN N; try clear hy ops) | (refine hA ?_; clear hA A hB B; try simp only [hz]) | (refine hB ?_; clear hA A hB B; try simp only [hz]) | (refine gG ?_ ?_ <;> (intro hz; have h := nm hz; try (exfalso; omega)) <;> (have hz := nz hz; try subst hz)) | (rw [if_pos (show _ ∧ _ from ⟨by omega, by omega⟩)]; refine sS ?_) | refine gT ?_ | (clear hN N))
      all_goals (try unfold Msg.z at hQ)
      all_goals (first | exact retZ hQ Tryz.results9 (Desc.re [] rfl) | exact retZN hQ Tryz.results9 (Desc.re [] rfl))
    rw [if_neg h4]
    have h4 := Decidable.not_not.1 h4
    subst h4
    obtain ⟨rfl, hk2, rfl⟩ := hx2 rfl
    have hdr : (r2.drop k2).length = r2.length - k2 := List.length_drop
    by_cases h5 : k2 < r2.length
    · rw [if_pos (show r2.drop k2 ≠ [] from List.length_pos_iff.1 (by omega))]
      dsimp only
      rw [if_pos (show (3 : Int) ≠ 0 by decide)]
      have cc := True.intro
      clear hx2 hdr
      refine Sp.of_bodyE Tryz.func9 rfl ?_
      intro Q hQ
      simp only [List.replicate, List.length_cons, List.length_nil, Tryz.ntmps9, Nat.reduceAdd, Nat.reduceSub, List.cons_append, List.nil_append, go_sem]
      have hz : True := trivial
      have hy := yieldedV_eq
      have hL := And.intro @hz1 (And.intro @hr (And.intro @hz2 (@hr2)))
      repeat' (first | (refine WPV.seqK ?_; intro N hN) | (refine And.intro (hO _ (by kernel_rfl)) ?_; clear hO) | refine gA ?_ | (refine gR (M := noM) ?_; intro N hN ops hy) | (refine gDG (M := noM) ?_; intro N hN ops hy hO) | (refine WPV.condK ?_; intro A hA B hB) | (refine here ?_; refine sS ?_) | refine Both.mk ?_ ?_ | ((with_reducible refine CallO.gd 25 ?_); refine CallO.toB Tryz.call25 (co _) ?_) | ((with_reducible refine CallO.gd 26 ?_); first | refine CallO.toB Tryz.call26 (ct _) ?_ | refine CallO.toB Tryz.call26 (ct2 _) ?_) | ((with_reducible refine CallO.gd 27 ?_); refine CallO.frB [] Tryz.call27 (cu) ?_) | ((with_reducible refine CallO.gd 28 ?_); first | refine CallO.frB [] Tryz.call28 (cn) ?_ | refine CallO.frB [] Tryz.call28 (cn2) ?_) | ((with_reducible refine CallO.gd 13 ?_); refine CallO.frB [] Tryz.call13 (cc) ?_) | ((with_reducible refine CallP.gd 25 ?_); refine CallP.toB Tryz.call25 (co _) ?_) | ((with_reducible refine CallP.gd 26 ?_); first | refine CallP.toB Tryz.call26 (ct _) ?_ | refine CallP.toB Tryz.call26 (ct2 _) ?_) | ((with_reducible refine CallP.gd 27 ?_); refine CallP.frB [] 0 Tryz.call27 (cu) ?_) | ((with_reducible refine CallP.gd 28 ?_); first | refine CallP.frB [] 0 Tryz.call28 (cn) ?_ | refine CallP.frB [] 0 Tryz.call28 (cn2) ?_) | ((with_reducible refine CallP.gd 13 ?_); refine CallP.frB [] 0 Tryz.call13 (cc) ?_) | (refine hN _ ?_; try clear hN N; try clear hy ops) | (refine hA ?_; clear hA A hB B; try simp only [hz]) | (refine hB ?_; clear hA A hB B; try simp only [hz]) | (refine gG ?_ ?_ <;> (intro hz; have h := nm hz; try (exfalso; omega)) <;> (have hz := nz hz; try subst hz)) | (rw [if_pos (show _ ∧ _ from ⟨by omega, by omega⟩)]; refine sS ?_) | refine gT ?_ | (clear hN N))
      all_goals (try unfold Msg.z at hQ)
      all_goals (first | exact retZ hQ Tryz.results9 (Desc.re [] rfl) | exact retZN hQ Tryz.results9 (Desc.re [] rfl))
    rw [if_neg (show ¬ r2.drop k2 ≠ [] from fun h => by have := List.length_pos_iff.2 h; omega)]
    dsimp only
    rw [if_neg (show ¬ (0 : Int) ≠ 0 by decide)]
    clear hx2 hdr
    have cc := rmchk_s (K := K) ⟨3, vn, y, y2, []⟩ (Nat.zero_le _) (by simp)
    generalize mchk ⟨3, vn, y, y2, []⟩ = q at *
    refine Sp.of_bodyE Tryz.func9 rfl ?_
    intro Q hQ
    simp only [List.replicate, List.length_cons, List.length_nil, Tryz.ntmps9, Nat.reduceAdd, Nat.reduceSub, List.cons_append, List.nil_append, go_sem]
    have hz : True := trivial
    have hy := yieldedV_eq
    have hL := And.intro @hz1 (And.intro @hr (And.intro @hz2 (@hr2)))
    repeat' (first | (refine WPV.seqK ?_; intro N hN) | (refine And.intro (hO _ (by kernel_rfl)) ?_; clear hO) | refine gA ?_ | (refine gR (M := noM) ?_; intro N hN ops hy) | (refine gDG (M := noM) ?_; intro N hN ops hy hO) | (refine WPV.condK ?_; intro A hA B hB) | (refine here ?_; refine sS ?_) | refine Both.mk ?_ ?_ | ((with_reducible refine CallO.gd 25 ?_); refine CallO.toB Tryz.call25 (co _) ?_) | ((with_reducible refine CallO.gd 26 ?_); first | refine CallO.toB Tryz.call26 (ct _) ?_ | refine CallO.toB Tryz.call26 (ct2 _) ?_) | ((with_reducible refine CallO.gd 27 ?_); refine CallO.frB [] Tryz.call27 (cu) ?_) | ((with_reducible refine CallO.gd 28 ?_); first | refine CallO.frB [] Tryz.call28 (cn) ?_ | refine CallO.frB [] Tryz.call28 (cn2) ?_) | ((with_reducible refine CallO.gd 13 ?_); refine CallO.frB [] Tryz.call13 (cc) ?_) | ((with_reducible refine CallP.gd 25 ?_); refine CallP.toB Tryz.call25 (co _) ?_) | ((with_reducible refine CallP.gd 26 ?_); first | refine CallP.toB Tryz.call26 (ct _) ?_ | refine CallP.toB Tryz.call26 (ct2 _) ?_) | ((with_reducible refine CallP.gd 27 ?_); refine CallP.frB [] 0 Tryz.call27 (cu) ?_) | ((with_reducible refine CallP.gd 28 ?_); first | refine CallP.frB [] 0 Tryz.call28 (cn) ?_ | refine CallP.frB [] 0 Tryz.call28 (cn2) ?_) | ((with_reducible refine CallP.gd 13 ?_); refine CallP.frB [] 0 Tryz.call13 (cc) ?_) | (refine hN _ ?_; try clear hN N; try clear hy ops) | (refine hA ?_; clear hA A hB B; try simp only [hz]) | (refine hB ?_; clear hA A hB B; try simp only [hz]) | (refine gG ?_ ?_ <;> (intro hz; have h := nm hz; try (exfalso; omega)) <;> (have hz := nz hz; try subst hz)) | (rw [if_pos (show _ ∧ _ from ⟨by omega, by omega⟩)]; refine sS ?_) | refine gT ?_ | (clear hN N))
    all_goals (first | (rw [if_pos (show q ≠ 0 by omega)] at hQ; dsimp only [Msg.z] at hQ) | rw [if_neg (show ¬ q ≠ 0 by omega)] at hQ)
    all_goals (first | exact retZ hQ Tryz.results9 (Desc.re [] rfl) | exact retZN hQ Tryz.results9 (Desc.re [] rfl))
end Go.Proofs.YtgfnpcmehnjopaaGreatDoor
end
section
namespace Go.Proofs.YtgfnpcmehnjopaaGreatDoor
open Go Go.RowKit
set_option linter.unusedVariables false
set_option linter.unusedSimpArgs false
variable {K : Nat → Obj → Prop}
theorem mput_ok {m : Msg} (h : mchk m = 0) : mput m = (sealF (vput m.k.toNat ++ vput m.o.toNat ++ mbody m), 0) := by unfold mput; exact if_neg (by rw [h]; simp)
theorem mchk_bd {m : Msg} (h : mchk m = 0) : m.l.length ≤ 4 ∧ ∀ t ∈ m.l, t.w.length ≤ 16 := by
  obtain ⟨_, _, hb⟩ := mchk_ok h
  rcases hb with ⟨h1, hd⟩ | ⟨h1, hd⟩ | ⟨h1, hd⟩
  · obtain ⟨_, _, a3, a4⟩ := mdata_ok hd
    exact ⟨a3, fun t ht => (check_ok (a4 t ht)).2.2.2.1⟩
  · rw [(mack_ok hd).2.1]; simp
  · rw [(mask_ok hd).1]; simp
theorem vsame_m (l : List UInt8) (h : List Ho) : Sp Tryz.prog K 14 [.sl 1 (bs l), .sl 1 (bs l)] h fun u hh => u = .sc (.bool true) ∧ hh = h := by
  simpa using vsame_s (K := K) l l h
theorem msameF_refl (m : Msg) : msameF m m = true := decide_eq_true ⟨rfl, rfl, rfl, rfl, teqL_refl m.l⟩
theorem mread_z (p : List UInt8) (h : (mread p).2 ≠ 0) : (mread p).1 = .z := by
  unfold mread at h ⊢
  split
  · rfl
  rename_i h1; rw [if_neg h1] at h
  split
  · rfl
  rename_i h2; rw [if_neg h2] at h
  split
  · rfl
  rename_i h3; rw [if_neg h3] at h
  split
  · rfl
  rename_i h4; rw [if_neg h4] at h
  split
  · rfl
  rename_i h5; rw [if_neg h5] at h
  split
  · rfl
  rename_i h6; rw [if_neg h6] at h
  exact absurd rfl h
theorem mtake_bd (b : List UInt8) : (mtake b).1.l.length ≤ 4 ∧ ∀ t ∈ (mtake b).1.l, t.w.length ≤ 16 := by
  by_cases h : (mtake b).2 = 0
  · exact mchk_bd (mput_mtake (b := b) (m := (mtake b).1) (Prod.ext rfl h)).2
  · have e : (mtake b).1 = .z := by
      unfold mtake at h ⊢
      split
      · rfl
      · rename_i h1; rw [if_neg h1] at h; exact mread_z _ h
    rw [e]
    exact ⟨Nat.zero_le _, fun t ht => by cases ht⟩
end Go.Proofs.YtgfnpcmehnjopaaGreatDoor
end
section
namespace Go.Proofs.YtgfnpcmehnjopaaGreatDoor
open Go Go.RowKit
set_option linter.unusedVariables false
set_option linter.unusedSimpArgs false
variable {K : Nat → Obj → Prop}
end Go.Proofs.YtgfnpcmehnjopaaGreatDoor
end
section
namespace Go.Proofs.YtgfnpcmehnjopaaGreatDoor
section
open Go Go.RowKit
set_option linter.unusedVariables false
set_option linter.unusedSimpArgs false
variable {K : Nat → Obj → Prop}
def Wr.big (a : Wr) : Bool := decide (9000 < a.k.size) || decide (9000 < a.v.size)
def Tx.big (t : Tx) : Bool := decide (40 < t.w.length) || t.w.any Wr.big
set_option maxRecDepth 100000 in
set_option maxHeartbeats 4000000 in
theorem tbig_s (t : Tx) : Sp Tryz.prog K 18 [txV t] [] fun u hh => u = .sc (.bool t.big) ∧ hh = [] := by
  obtain ⟨o, s, ⟨x, y, z⟩, w⟩ := t
  have hlt : True := trivial
  have hget : True := trivial
  have hk : True := trivial
  have hv : True := trivial
  have hw : True := trivial
  by_cases h60 : 40 < w.length
  · have e : Tx.big ⟨o, s, ⟨x, y, z⟩, w⟩ = true := by simp [Tx.big, h60]
    rw [e]
    have hlen : ((40 : Int) < (w.length : Int)) = True := eq_true (by omega)
    refine Sp.of_bodyD Tryz.func18 rfl ?_
    intro Q hQ
    simp only [List.replicate, List.length_cons, List.length_nil, Tryz.ntmps18, Nat.reduceAdd, Nat.reduceSub, List.cons_append, List.nil_append, go_sem]
    have hz : True := trivial
    have hy := yieldedV_eq
    have hL := And.intro @hlen (And.intro @hlt (And.intro @hget (And.intro @hk (And.intro @hv (@hw)))))
    repeat' (first | (refine WPV.seqK ?_; intro N hN) | refine gA ?_ | (refine gR (M := noM) ?_; intro N hN ops hy) | (refine gD (M := noM) ?_; intro N hN; have hy := yieldedV_eq) | (refine WPV.condK ?_; intro A hA B hB) | (refine here ?_; refine sM ?_) | refine Both.mk ?_ ?_ | (refine hN _ ?_; try clear hN N; try clear hy ops) | (refine hA ?_; clear hA A hB B; try simp only [hz]) | (refine hB ?_; clear hA A hB B; try simp only [hz]) | (refine gG ?_ ?_ <;> (intro hz; have h := nm hz; try (exfalso; omega)) <;> (have hz := nz hz)) | ((first | rw [if_pos (show _ ∧ _ from ⟨by omega, by omega⟩)] | rw [if_pos (show _ ∧ _ from by simp only [List.length_append, List.length_cons, List.length_nil]; exact ⟨by omega, by omega⟩)]); refine sM ?_) | refine gT ?_ | (clear hN N))
    all_goals (first | exact retA hQ Tryz.results18 (Desc.re [] rfl) | exact retN hQ Tryz.results18 (Desc.re [] rfl))
  · have hlen : ((40 : Int) < (w.length : Int)) = False := eq_false (by omega)
    have e : Tx.big ⟨o, s, ⟨x, y, z⟩, w⟩ = w.any Wr.big := by simp [Tx.big, h60]
    rw [e]
    refine Sp.of_bodyD Tryz.func18 rfl ?_
    intro Q hQ
    simp only [List.replicate, List.length_cons, List.length_nil, Tryz.ntmps18, Nat.reduceAdd, Nat.reduceSub, List.cons_append, List.nil_append, go_sem]
    have hz : True := trivial
    have hy := yieldedV_eq
    have hL := And.intro @hlen (And.intro @hlt (And.intro @hget (And.intro @hk (And.intro @hv (@hw)))))
    repeat' (first | (refine WPV.seqK ?_; intro N hN) | refine gA ?_ | (refine gR (M := noM) ?_; intro N hN ops hy) | (refine gD (M := noM) ?_; intro N hN; have hy := yieldedV_eq) | (refine WPV.condK ?_; intro A hA B hB) | (refine here ?_; refine sM ?_) | refine Both.mk ?_ ?_ | (refine hN _ ?_; try clear hN N; try clear hy ops) | (refine hA ?_; clear hA A hB B; try simp only [hz]) | (refine hB ?_; clear hA A hB B; try simp only [hz]) | (refine gG ?_ ?_ <;> (intro hz; have h := nm hz; try (exfalso; omega)) <;> (have hz := nz hz)) | ((first | rw [if_pos (show _ ∧ _ from ⟨by omega, by omega⟩)] | rw [if_pos (show _ ∧ _ from by simp only [List.length_append, List.length_cons, List.length_nil]; exact ⟨by omega, by omega⟩)]); refine sM ?_) | refine gT ?_ | (clear hN N))
    refine WPV.desc (Desc.weakA (tm' := [.any, .ptr 0 0, .sc (.bool false), .any, .any, .any, .any, .any, .any, .any, .sl 3 (wrl w), .sc (.int .i64 (w.length : Int)), .sc (.int .i64 0), .any, .any, .any, .any, .any, .any, .any, .any, .any, .any, .any, .any, .any, .any]) (h' := [.cells [.sc (.int .i64 o), .sc (.int .i64 s), .sc (.int .i64 x), .sc (.int .i64 y), .sc (.int .i64 z), .sl 3 (wrl w)]])) ?_
    refine WPV.loopA (α := Nat) (fun k => w.length - k) (fun k => ⟨[.any, .ptr 0 0, .sc (.bool false), .any, .any, .any, .any, .any, .any, .any, .sl 3 (wrl w), .sc (.int .i64 (w.length : Int)), .sc (.int .i64 ((k : Nat) : Int)), .any, .any, .any, .any, .any, .any, .any, .any, .any, .any, .any, .any, .any, .any], [.cells [.sc (.int .i64 o), .sc (.int .i64 s), .sc (.int .i64 x), .sc (.int .i64 y), .sc (.int .i64 z), .sl 3 (wrl w)]]⟩) (fun k => k ≤ w.length ∧ w.any Wr.big = (w.drop k).any Wr.big) (fun k ⟨hk0, hJ⟩ H => ?_) 0 ⟨Nat.zero_le _, rfl⟩
    clear hlt hget hk hv hw
    by_cases h : k < w.length
    · have hlt : ((k : Int) < (w.length : Int)) = True := eq_true (by omega)
      have hget : w[k]? = some w[k] := List.getElem?_eq_getElem h
      have hw : IntKind.i64.wrap ((k : Int) + 1) = ((k + 1 : Nat) : Int) := by rw [wr_i64 (by omega) (by omega)]; rfl
      rw [List.drop_eq_getElem_cons h, List.any_cons] at hJ
      generalize w[k] = a at hget hJ
      by_cases hx : 9000 < a.k.size
      · have e : w.any Wr.big = true := by rw [hJ]; simp [Wr.big, hx]
        rw [e] at hQ
        have hk : ((9000 : Int) < (a.k.size : Int)) = True := eq_true (by omega)
        have hv : True := trivial
        clear H
        refine loopV ?_
        have hz : True := trivial
        have hy := yieldedV_eq
        have hL := And.intro @hlen (And.intro @hlt (And.intro @hget (And.intro @hk (And.intro @hv (@hw)))))
        repeat' (first | (refine WPV.seqK ?_; intro N hN) | refine gA ?_ | (refine gR (M := noM) ?_; intro N hN ops hy) | (refine gD (M := noM) ?_; intro N hN; have hy := yieldedV_eq) | (refine WPV.condK ?_; intro A hA B hB) | (refine here ?_; refine sM ?_) | refine Both.mk ?_ ?_ | (refine hN _ ?_; try clear hN N; try clear hy ops) | (refine hA ?_; clear hA A hB B; try simp only [hz]) | (refine hB ?_; clear hA A hB B; try simp only [hz]) | (refine gG ?_ ?_ <;> (intro hz; have h := nm hz; try (exfalso; omega)) <;> (have hz := nz hz)) | ((first | rw [if_pos (show _ ∧ _ from ⟨by omega, by omega⟩)] | rw [if_pos (show _ ∧ _ from by simp only [List.length_append, List.length_cons, List.length_nil]; exact ⟨by omega, by omega⟩)]); refine sM ?_) | refine gT ?_ | (clear hN N))
        all_goals (first | exact retA hQ Tryz.results18 (Desc.re [] rfl) | exact retN hQ Tryz.results18 (Desc.re [] rfl))
      have hk : ((9000 : Int) < (a.k.size : Int)) = False := eq_false (by omega)
      by_cases hy2 : 9000 < a.v.size
      · have e : w.any Wr.big = true := by rw [hJ]; simp [Wr.big, hy2]
        rw [e] at hQ
        have hv : ((9000 : Int) < (a.v.size : Int)) = True := eq_true (by omega)
        clear H
        refine loopV ?_
        have hz : True := trivial
        have hy := yieldedV_eq
        have hL := And.intro @hlen (And.intro @hlt (And.intro @hget (And.intro @hk (And.intro @hv (@hw)))))
        repeat' (first | (refine WPV.seqK ?_; intro N hN) | refine gA ?_ | (refine gR (M := noM) ?_; intro N hN ops hy) | (refine gD (M := noM) ?_; intro N hN; have hy := yieldedV_eq) | (refine WPV.condK ?_; intro A hA B hB) | (refine here ?_; refine sM ?_) | refine Both.mk ?_ ?_ | (refine hN _ ?_; try clear hN N; try clear hy ops) | (refine hA ?_; clear hA A hB B; try simp only [hz]) | (refine hB ?_; clear hA A hB B; try simp only [hz]) | (refine gG ?_ ?_ <;> (intro hz; have h := nm hz; try (exfalso; omega)) <;> (have hz := nz hz)) | ((first | rw [if_pos (show _ ∧ _ from ⟨by omega, by omega⟩)] | rw [if_pos (show _ ∧ _ from by simp only [List.length_append, List.length_cons, List.length_nil]; exact ⟨by omega, by omega⟩)]); refine sM ?_) | refine gT ?_ | (clear hN N))
        all_goals (first | exact retA hQ Tryz.results18 (Desc.re [] rfl) | exact retN hQ Tryz.results18 (Desc.re [] rfl))
      have e : w.any Wr.big = (w.drop (k + 1)).any Wr.big := by rw [hJ]; simp [Wr.big, hx, hy2]
      have hv : ((9000 : Int) < (a.v.size : Int)) = False := eq_false (by omega)
      have H' := H (k + 1) ⟨by omega, e⟩ (by omega)
      clear H
      refine loopV ?_
      have hz : True := trivial
      have hy := yieldedV_eq
      have hL := And.intro @hlen (And.intro @hlt (And.intro @hget (And.intro @hk (And.intro @hv (@hw)))))
      repeat' (first | (refine WPV.seqK ?_; intro N hN) | refine gA ?_ | (refine gR (M := noM) ?_; intro N hN ops hy) | (refine gD (M := noM) ?_; intro N hN; have hy := yieldedV_eq) | (refine WPV.condK ?_; intro A hA B hB) | (refine here ?_; refine sM ?_) | refine Both.mk ?_ ?_ | (refine hN _ ?_; try clear hN N; try clear hy ops) | (refine hA ?_; clear hA A hB B; try simp only [hz]) | (refine hB ?_; clear hA A hB B; try simp only [hz]) | (refine gG ?_ ?_ <;> (intro hz; have h := nm hz; try (exfalso; omega)) <;> (have hz := nz hz)) | ((first | rw [if_pos (show _ ∧ _ from ⟨by omega, by omega⟩)] | rw [if_pos (show _ ∧ _ from by simp only [List.length_append, List.length_cons, List.length_nil]; exact ⟨by omega, by omega⟩)]); refine sM ?_) | refine gT ?_ | (clear hN N))
      exact WPV.desc ((Desc.re [some 0] rfl).trans Desc.weakA) H'
    · obtain rfl : k = w.length := by omega
      have e : w.any Wr.big = false := by rw [hJ]; simp
      rw [e] at hQ
      have hlt : ((w.length : Int) < (w.length : Int)) = False := by simp
      have hget : True := trivial
      have hk : True := trivial
      have hv : True := trivial
      have hw : True := trivial
      refine loopV ?_
      have hz : True := trivial
      have hy := yieldedV_eq
      have hL := And.intro @hlen (And.intro @hlt (And.intro @hget (And.intro @hk (And.intro @hv (@hw)))))
      repeat' (first | (refine WPV.seqK ?_; intro N hN) | refine gA ?_ | (refine gR (M := noM) ?_; intro N hN ops hy) | (refine gD (M := noM) ?_; intro N hN; have hy := yieldedV_eq) | (refine WPV.condK ?_; intro A hA B hB) | (refine here ?_; refine sM ?_) | refine Both.mk ?_ ?_ | (refine hN _ ?_; try clear hN N; try clear hy ops) | (refine hA ?_; clear hA A hB B; try simp only [hz]) | (refine hB ?_; clear hA A hB B; try simp only [hz]) | (refine gG ?_ ?_ <;> (intro hz; have h := nm hz; try (exfalso; omega)) <;> (have hz := nz hz)) | ((first | rw [if_pos (show _ ∧ _ from ⟨by omega, by omega⟩)] | rw [if_pos (show _ ∧ _ from by simp only [List.length_append, List.length_cons, List.length_nil]; exact ⟨by omega, by omega⟩)]); refine sM ?_) | refine gT ?_ | (clear hN N))
      all_goals (first | exact retA hQ Tryz.results18 (Desc.re [] rfl) | exact retN hQ Tryz.results18 (Desc.re [] rfl))
end
end Go.Proofs.YtgfnpcmehnjopaaGreatDoor
end
section
namespace Go.Proofs.YtgfnpcmehnjopaaGreatDoor
open Go Go.RowKit
set_option linter.unusedVariables false
set_option linter.unusedSimpArgs false
variable {K : Nat → Obj → Prop}
def largeT (l : List Tx) : Bool := decide (30 < l.length) || l.any Tx.big
theorem largeT_ok {l : List Tx} (h : largeT l = false) : l.length ≤ 30 ∧ ∀ t ∈ l, t.w.length ≤ 40 := by
  unfold largeT at h
  simp only [Bool.or_eq_false_iff, decide_eq_false_iff_not] at h
  refine ⟨by omega, fun t ht => ?_⟩
  have := List.any_eq_false.1 h.2 t ht
  unfold Tx.big at this
  simp at this
  omega
set_option maxRecDepth 100000 in
set_option maxHeartbeats 1000000 in
theorem large7_s (l : List Tx) (hl : l.length ≤ 9223372036854775807) : Sp Tryz.prog K 5 [.sl 6 (txs l)] [] fun u hh => u = .sc (.bool (largeT l)) ∧ hh = [] := by
  have hget := True.intro
  have cb := True.intro
  by_cases h3 : 30 < l.length
  · have e : largeT l = true := by unfold largeT; simp [h3]
    rw [e]
    refine Sp.of_bodyE Tryz.func5 rfl ?_
    intro Q hQ
    simp only [List.replicate, List.length_cons, List.length_nil, Tryz.ntmps5, Nat.reduceAdd, Nat.reduceSub, List.cons_append, List.nil_append, go_sem]
    have hz : True := trivial
    have hy := yieldedV_eq
    have hL := True.intro
    repeat' (first | (refine WPV.seqK ?_; intro N hN) | (refine And.intro (hO _ (by kernel_rfl)) ?_; clear hO) | refine gA ?_ | (refine gR (M := noM) ?_; intro N hN ops hy) | (refine gDG (M := noM) ?_; intro N hN ops hy hO) | (refine WPV.condK ?_; intro A hA B hB) | (refine here ?_; refine sS ?_) | refine Both.mk ?_ ?_ | (refine hN _ ?_; try clear hN N; try clear hy ops) | (refine hA ?_; clear hA A hB B; try simp only [hz]) | (refine hB ?_; clear hA A hB B; try simp only [hz]) | (refine gG ?_ ?_ <;> (intro hz; have h := nm hz; try (exfalso; omega)) <;> (have hz := nz hz; try subst hz)) | (rw [if_pos (show _ ∧ _ from ⟨by omega, by omega⟩)]; refine sS ?_) | refine gT ?_ | (clear hN N))
    all_goals (first | exact retZ hQ Tryz.results5 (Desc.re [] rfl) | exact retZN hQ Tryz.results5 (Desc.re [] rfl))
  have e : largeT l = l.any Tx.big := by unfold largeT; simp [h3]
  rw [e]
  refine Sp.of_bodyE Tryz.func5 rfl ?_
  intro Q hQ
  simp only [List.replicate, List.length_cons, List.length_nil, Tryz.ntmps5, Nat.reduceAdd, Nat.reduceSub, List.cons_append, List.nil_append, go_sem]
  have hz : True := trivial
  have hy := yieldedV_eq
  have hL := True.intro
  repeat' (first | (refine WPV.seqK ?_; intro N hN) | (refine And.intro (hO _ (by kernel_rfl)) ?_; clear hO) | refine gA ?_ | (refine gR (M := noM) ?_; intro N hN ops hy) | (refine gDG (M := noM) ?_; intro N hN ops hy hO) | (refine WPV.condK ?_; intro A hA B hB) | (refine here ?_; refine sS ?_) | refine Both.mk ?_ ?_ | (refine hN _ ?_; try clear hN N; try clear hy ops) | (refine hA ?_; clear hA A hB B; try simp only [hz]) | (refine hB ?_; clear hA A hB B; try simp only [hz]) | (refine gG ?_ ?_ <;> (intro hz; have h := nm hz; try (exfalso; omega)) <;> (have hz := nz hz; try subst hz)) | (rw [if_pos (show _ ∧ _ from ⟨by omega, by omega⟩)]; refine sS ?_) | refine gT ?_ | (clear hN N))
  clear hget cb
  refine WPV.loopW (α := Nat) (fun k => l.length - k) (fun k => ⟨[.any, .any, .any, .any, .any, .any, .any, .any, .sl 6 (txs l), .sc (.int .i64 (l.length : Int)), .sc (.int .i64 ((k : Nat) : Int)), .any, .any, .any, .any, .any, .any], []⟩) (fun k => k ≤ l.length ∧ l.any Tx.big = (l.drop k).any Tx.big) 0 Desc.weakA ⟨Nat.zero_le _, rfl⟩ (fun k hJ H => ?_)
  obtain ⟨j1, j2⟩ := hJ
  by_cases h : k < l.length
  · obtain ⟨t, hg0⟩ : ∃ t, l[k] = t := ⟨_, rfl⟩
    have hget : l[k]? = some t := by rw [← hg0]; exact List.getElem?_eq_getElem h
    have cb := tbig_s (K := K) t
    rw [List.drop_eq_getElem_cons h, hg0, List.any_cons] at j2
    obtain ⟨o, s, ⟨x, y, z⟩, w⟩ := t
    dsimp only [txV] at cb
    cases hb : Tx.big ⟨o, s, ⟨x, y, z⟩, w⟩ with
    | true =>
      rw [hb, Bool.true_or] at j2
      rw [hb] at cb
      rw [j2] at hQ
      clear H hg0 j2 hb
      refine loopV ?_
      have hz : True := trivial
      have hy := yieldedV_eq
      have hL := @hget
      repeat' (first | (refine WPV.seqK ?_; intro N hN) | (refine And.intro (hO _ (by kernel_rfl)) ?_; clear hO) | refine gA ?_ | (refine gR (M := noM) ?_; intro N hN ops hy) | (refine gDG (M := noM) ?_; intro N hN ops hy hO) | (refine WPV.condK ?_; intro A hA B hB) | (refine here ?_; refine sS ?_) | refine Both.mk ?_ ?_ | ((with_reducible refine CallO.gd 18 ?_); refine CallO.frB [] Tryz.call18 (cb) ?_) | (refine hN _ ?_; try clear hN N; try clear hy ops) | (refine hA ?_; clear hA A hB B; try simp only [hz]) | (refine hB ?_; clear hA A hB B; try simp only [hz]) | (refine gG ?_ ?_ <;> (intro hz; have h := nm hz; try (exfalso; omega)) <;> (have hz := nz hz; try subst hz)) | (rw [if_pos (show _ ∧ _ from ⟨by omega, by omega⟩)]; refine sS ?_) | refine gT ?_ | (clear hN N))
      all_goals (first | exact retZ hQ Tryz.results5 (Desc.re [] rfl) | exact retZN hQ Tryz.results5 (Desc.re [] rfl))
    | false =>
      rw [hb, Bool.false_or] at j2
      rw [hb] at cb
      have H' := H (k + 1) ⟨h, j2⟩ (by omega)
      clear H hg0 j2 hb
      refine loopV ?_
      have hz : True := trivial
      have hy := yieldedV_eq
      have hL := @hget
      repeat' (first | (refine WPV.seqK ?_; intro N hN) | (refine And.intro (hO _ (by kernel_rfl)) ?_; clear hO) | refine gA ?_ | (refine gR (M := noM) ?_; intro N hN ops hy) | (refine gDG (M := noM) ?_; intro N hN ops hy hO) | (refine WPV.condK ?_; intro A hA B hB) | (refine here ?_; refine sS ?_) | refine Both.mk ?_ ?_ | ((with_reducible refine CallO.gd 18 ?_); refine CallO.frB [] Tryz.call18 (cb) ?_) | (refine hN _ ?_; try clear hN N; try clear hy ops) | (refine hA ?_; clear hA A hB B; try simp only [hz]) | (refine hB ?_; clear hA A hB B; try simp only [hz]) | (refine gG ?_ ?_ <;> (intro hz; have h := nm hz; try (exfalso; omega)) <;> (have hz := nz hz; try subst hz)) | (rw [if_pos (show _ ∧ _ from ⟨by omega, by omega⟩)]; refine sS ?_) | refine gT ?_ | (clear hN N))
      all_goals (exact rndZ (Desc.re [] rfl) (H'))
  · obtain rfl : k = l.length := by omega
    rw [List.drop_length] at j2
    have e : l.any Tx.big = false := j2
    rw [e] at hQ
    clear H j2 e
    refine loopV ?_
    have hz : True := trivial
    have hy := yieldedV_eq
    have hL := True.intro
    repeat' (first | (refine WPV.seqK ?_; intro N hN) | (refine And.intro (hO _ (by kernel_rfl)) ?_; clear hO) | refine gA ?_ | (refine gR (M := noM) ?_; intro N hN ops hy) | (refine gDG (M := noM) ?_; intro N hN ops hy hO) | (refine WPV.condK ?_; intro A hA B hB) | (refine here ?_; refine sS ?_) | refine Both.mk ?_ ?_ | (refine hN _ ?_; try clear hN N; try clear hy ops) | (refine hA ?_; clear hA A hB B; try simp only [hz]) | (refine hB ?_; clear hA A hB B; try simp only [hz]) | (refine gG ?_ ?_ <;> (intro hz; have h := nm hz; try (exfalso; omega)) <;> (have hz := nz hz; try subst hz)) | (rw [if_pos (show _ ∧ _ from ⟨by omega, by omega⟩)]; refine sS ?_) | refine gT ?_ | (clear hN N))
    all_goals (first | exact retZ hQ Tryz.results5 (Desc.re [] rfl) | exact retZN hQ Tryz.results5 (Desc.re [] rfl))
end Go.Proofs.YtgfnpcmehnjopaaGreatDoor
end
section
namespace Go.Proofs.YtgfnpcmehnjopaaGreatDoor
open Go Go.RowKit
set_option linter.unusedVariables false
set_option linter.unusedSimpArgs false
variable {K : Nat → Obj → Prop}
set_option maxRecDepth 100000 in
set_option maxHeartbeats 8000000 in
theorem mailtells_g (aw : Sp Tryz.prog K 4 [] [] fun u hh => u = .sc (.bool true) ∧ hh = []) (m n : Msg) (b : List UInt8) (hl : m.l.length ≤ 9223372036854775807) (hl2 : n.l.length ≤ 9223372036854775807) (hh : largeT m.l = true ∨ largeT n.l = true ∨ 9000 < b.length) : Sp Tryz.prog K 3 [msgV m, msgV n, .sl 1 (bs b)] [] fun u hh => u = .sc (.bool true) ∧ hh = [] := by
  have cl := large7_s (K := K) m.l hl
  have cl2 := large7_s (K := K) n.l hl2
  obtain ⟨i1, e1⟩ := bool_i (largeT m.l)
  obtain ⟨i2, e2⟩ := bool_i (largeT n.l)
  rw [e1] at cl hh
  rw [e2] at cl2 hh
  simp only [decide_eq_true_eq] at hh
  clear e1 e2
  obtain ⟨k, o, f, t, l⟩ := m
  obtain ⟨nk, no, nf, nt, nl⟩ := n
  dsimp only at *
  refine Sp.of_bodyE Tryz.func3 rfl ?_
  intro Q hQ
  simp only [List.replicate, List.length_cons, List.length_nil, Tryz.ntmps3, Nat.reduceAdd, Nat.reduceSub, List.cons_append, List.nil_append, go_sem]
  have hz : True := trivial
  have hy := yieldedV_eq
  have hL := True.intro
  repeat' (first | (refine WPV.seqK ?_; intro N hN) | (refine And.intro (hO _ (by kernel_rfl)) ?_; clear hO) | refine gA ?_ | (refine gR (M := noM) ?_; intro N hN ops hy) | (refine gDG (M := noM) ?_; intro N hN ops hy hO) | (refine WPV.condK ?_; intro A hA B hB) | (refine here ?_; refine sS ?_) | refine Both.mk ?_ ?_ | ((with_reducible refine CallO.gd 4 ?_); refine CallO.frB [] Tryz.call4 (aw) ?_) | ((with_reducible refine CallO.gd 5 ?_); first | refine CallO.frB [] Tryz.call5 (cl) ?_ | refine CallO.frB [] Tryz.call5 (cl2) ?_) | ((with_reducible refine CallP.gd 5 ?_); first | refine CallP.frB [] 0 Tryz.call5 (cl) ?_ | refine CallP.frB [] 0 Tryz.call5 (cl2) ?_) | (refine hN _ ?_; try clear hN N; try clear hy ops) | (refine hA ?_; clear hA A hB B; try simp only [hz]) | (refine hB ?_; clear hA A hB B; try simp only [hz]) | (refine gG ?_ ?_ <;> (intro hz; have h := nm hz; try (exfalso; omega)) <;> (have hz := nz hz; try subst hz)) | (rw [if_pos (show _ ∧ _ from ⟨by omega, by omega⟩)]; refine sS ?_) | refine gT ?_ | (clear hN N))
  all_goals (first | exact retZ hQ Tryz.results3 (Desc.re [] rfl) | exact retZN hQ Tryz.results3 (Desc.re [] rfl))
set_option maxRecDepth 100000 in
set_option maxHeartbeats 8000000 in
theorem mailtells_s (hK : KT K) (aw : Sp Tryz.prog K 4 [] [] fun u hh => u = .sc (.bool true) ∧ hh = []) (m n : Msg) (b : List UInt8) (hl : m.l.length ≤ 9223372036854775807) (hl2 : n.l.length ≤ 9223372036854775807) : Sp Tryz.prog K 3 [msgV m, msgV n, .sl 1 (bs b)] [] fun u hh => u = .sc (.bool true) ∧ hh = [] := by
  have cl := large7_s (K := K) m.l hl
  have cl2 := large7_s (K := K) n.l hl2
  by_cases hh : largeT m.l = true ∨ largeT n.l = true ∨ 9000 < b.length
  · exact mailtells_g aw m n b hl hl2 hh
  have hg : largeT m.l = false := by cases h : largeT m.l <;> simp_all
  have hg2 : largeT n.l = false := by cases h : largeT n.l <;> simp_all
  have hb9 : ¬ 9000 < b.length := fun h => hh (.inr (.inr h))
  rw [hg] at cl
  rw [hg2] at cl2
  clear hh
  obtain ⟨l30, l40⟩ := largeT_ok hg
  obtain ⟨n30, n40⟩ := largeT_ok hg2
  have hw := fun t ht => Nat.le_trans (l40 t ht) (show 40 ≤ 1000000 by decide)
  have hw2 := fun t ht => Nat.le_trans (n40 t ht) (show 40 ≤ 1000000 by decide)
  have hsl := sealF_len b
  have cs := fun h => seal_s hK b (by omega) h
  have rs := fun h => rseal_s (K := K) b (by omega) h
  have cp := mput_s hK m hl hw
  have rp := rmput_s (K := K) m (by omega) hw
  have ck := mchk_s (K := K) m hl (fun t ht => Nat.le_trans (hw t ht) (by decide))
  have rk := rmchk_s (K := K) m (by omega) hw
  have ct := mtake_s hK b (by omega)
  have rt := rmtake_s (K := K) b (by omega)
  have ct2 := mtake_s hK (sealF b) (by omega)
  have rt2 := rmtake_s (K := K) (sealF b) (by omega)
  obtain ⟨x4, x16⟩ := mtake_bd b
  obtain ⟨y4, y16⟩ := mtake_bd (sealF b)
  have s1 := rmsame_s (K := K) (mtake b).1 (mtake b).1 (by omega) (by omega) (fun t ht => Nat.le_trans (x16 t ht) (by decide)) (fun t ht => Nat.le_trans (x16 t ht) (by decide))
  have s2 := rmsame_s (K := K) (mtake (sealF b)).1 (mtake (sealF b)).1 (by omega) (by omega) (fun t ht => Nat.le_trans (y16 t ht) (by decide)) (fun t ht => Nat.le_trans (y16 t ht) (by decide))
  have s3 := rmsame_s (K := K) m n (by omega) hl2 hw (fun t ht => Nat.le_trans (hw2 t ht) (by decide))
  have s4 := msame_s (K := K) m n hl hl2 (fun t ht => Nat.le_trans (hw t ht) (by decide)) (fun t ht => Nat.le_trans (hw2 t ht) (by decide))
  rw [msameF_refl] at s1 s2
  clear x4 x16 y4 y16
  generalize mtake (sealF b) = y at *
  generalize mtake b = x at *
  generalize sealF b = sb at *
  generalize mchk m = q at *
  generalize mput m = pe at *
  generalize msameF m n = bb at *
  obtain ⟨p, e⟩ := pe
  obtain ⟨⟨xk, xo, xf, xt, xl⟩, xe⟩ := x
  obtain ⟨⟨yk, yo, yf, yt, yl⟩, ye⟩ := y
  have vs := fun h => vsame_m (K := K) p h
  clear hg hg2 l40 n40 hw hw2
  obtain ⟨k, o, f, t, l⟩ := m
  obtain ⟨nk, no, nf, nt, nl⟩ := n
  dsimp only [byV] at *
  refine Sp.of_bodyE Tryz.func3 rfl ?_
  intro Q hQ
  simp only [List.replicate, List.length_cons, List.length_nil, Tryz.ntmps3, Nat.reduceAdd, Nat.reduceSub, List.cons_append, List.nil_append, go_sem]
  have hz : True := trivial
  have hy := yieldedV_eq
  have hL := True.intro
  repeat' (first | (refine WPV.seqK ?_; intro N hN) | (refine And.intro (hO _ (by kernel_rfl)) ?_; clear hO) | refine gA ?_ | (refine gR (M := noM) ?_; intro N hN ops hy) | (refine gDG (M := noM) ?_; intro N hN ops hy hO) | (refine WPV.condK ?_; intro A hA B hB) | (refine here ?_; refine sS ?_) | refine Both.mk ?_ ?_ | ((with_reducible refine CallO.gd 4 ?_); refine CallO.frB [] Tryz.call4 (aw) ?_) | ((with_reducible refine CallO.gd 5 ?_); first | refine CallO.frB [] Tryz.call5 (cl) ?_ | refine CallO.frB [] Tryz.call5 (cl2) ?_) | ((with_reducible refine CallO.gd 6 ?_); refine CallO.frB [] Tryz.call6 (cp) ?_) | ((with_reducible refine CallO.gd 7 ?_); refine CallO.frB [] Tryz.call7 (rp) ?_) | ((with_reducible refine CallO.gd 8 ?_); first | refine CallO.frB [] Tryz.call8 (ct) ?_ | refine CallO.frB [] Tryz.call8 (ct2) ?_) | ((with_reducible refine CallO.gd 9 ?_); first | refine CallO.frB [] Tryz.call9 (rt) ?_ | refine CallO.frB [] Tryz.call9 (rt2) ?_) | ((with_reducible refine CallO.gd 10 ?_); refine CallO.toB Tryz.call10 (cs _) ?_) | ((with_reducible refine CallO.gd 11 ?_); refine CallO.toB Tryz.call11 (rs _) ?_) | ((with_reducible refine CallO.gd 12 ?_); refine CallO.frB [] Tryz.call12 (ck) ?_) | ((with_reducible refine CallO.gd 13 ?_); refine CallO.frB [] Tryz.call13 (rk) ?_) | ((with_reducible refine CallO.gd 14 ?_); refine CallO.toB Tryz.call14 (vs _) ?_) | ((with_reducible refine CallO.gd 15 ?_); first | refine CallO.frB [] Tryz.call15 (s1) ?_ | refine CallO.frB [] Tryz.call15 (s2) ?_ | refine CallO.frB [] Tryz.call15 (s3) ?_) | ((with_reducible refine CallO.gd 16 ?_); refine CallO.frB [] Tryz.call16 (s4) ?_) | ((with_reducible refine CallP.gd 5 ?_); first | refine CallP.frB [] 0 Tryz.call5 (cl) ?_ | refine CallP.frB [] 0 Tryz.call5 (cl2) ?_) | ((with_reducible refine CallP.gd 6 ?_); refine CallP.frB [] 0 Tryz.call6 (cp) ?_) | ((with_reducible refine CallP.gd 7 ?_); refine CallP.frB [] 0 Tryz.call7 (rp) ?_) | ((with_reducible refine CallP.gd 8 ?_); first | refine CallP.frB [] 0 Tryz.call8 (ct) ?_ | refine CallP.frB [] 0 Tryz.call8 (ct2) ?_) | ((with_reducible refine CallP.gd 9 ?_); first | refine CallP.frB [] 0 Tryz.call9 (rt) ?_ | refine CallP.frB [] 0 Tryz.call9 (rt2) ?_) | ((with_reducible refine CallP.gd 10 ?_); refine CallP.toB Tryz.call10 (cs _) ?_) | ((with_reducible refine CallP.gd 11 ?_); refine CallP.toB Tryz.call11 (rs _) ?_) | ((with_reducible refine CallP.gd 12 ?_); refine CallP.frB [] 0 Tryz.call12 (ck) ?_) | ((with_reducible refine CallP.gd 13 ?_); refine CallP.frB [] 0 Tryz.call13 (rk) ?_) | ((with_reducible refine CallP.gd 14 ?_); refine CallP.toB Tryz.call14 (vs _) ?_) | ((with_reducible refine CallP.gd 15 ?_); first | refine CallP.frB [] 0 Tryz.call15 (s1) ?_ | refine CallP.frB [] 0 Tryz.call15 (s2) ?_ | refine CallP.frB [] 0 Tryz.call15 (s3) ?_) | ((with_reducible refine CallP.gd 16 ?_); refine CallP.frB [] 0 Tryz.call16 (s4) ?_) | (refine hN _ ?_; try clear hN N; try clear hy ops) | (refine hA ?_; clear hA A hB B; try simp only [hz]) | (refine hB ?_; clear hA A hB B; try simp only [hz]) | (refine gG ?_ ?_ <;> (intro hz; have h := nm hz; try (exfalso; omega)) <;> (have hz := nz hz; try subst hz)) | (rw [if_pos (show _ ∧ _ from ⟨by omega, by omega⟩)]; refine sS ?_) | refine gT ?_ | (clear hN N))
  all_goals (first | exact retZ hQ Tryz.results3 (Desc.re [] rfl) | exact retZN hQ Tryz.results3 (Desc.re [] rfl))
end Go.Proofs.YtgfnpcmehnjopaaGreatDoor
end
section
namespace Go.Proofs.YtgfnpcmehnjopaaGreatDoor
open Go Go.RowKit
set_option linter.unusedVariables false
set_option linter.unusedSimpArgs false
variable {K : Nat → Obj → Prop}
def bT : Tx := ⟨1, 1, ⟨0, 0, 0⟩, [⟨⟨#[97]⟩, ⟨#[120]⟩, false⟩]⟩
def bM : Msg := ⟨3, 2, 3, 300, []⟩
def bN : Msg := ⟨1, 1, 0, 0, [bT]⟩
theorem mtake_seal (l : List UInt8) : mtake (sealF l) = mread l := by
  unfold mtake; rw [openF_seal]; exact if_neg (by simp)
structure MAw (B D G S T : List UInt8) : Prop where
  pB : mput bM = (B, 0)
  tB : mtake B = (bM, 0)
  pD : mput bN = (D, 0)
  tD : mtake D = (bN, 0)
  gD : turnF 20 5 D = G
  tG : mtake G = (.z, 5)
  t1 : mtake [1] = (.z, 2)
  sS : sealF [2, 3, 0] = S
  tS : mtake S = (.z, 9)
  sT : sealF [3, 0, 0, 1] = T
  tT : mtake T = (.z, 1)
  lB : B.length = 9
  kB : B.take 5 = [3, 2, 3, 172, 2]
  lD : D.length = 18
  lS : S.length = 7
  lT : T.length = 8
  lG : G.length = 18
theorem maw : ∃ B D G S T, MAw B D G S T := by
  have c1 : mchk bM = 0 := by decide +kernel
  have c2 : mchk bN = 0 := by decide +kernel
  have b1 : vput bM.k.toNat ++ vput bM.o.toNat ++ mbody bM = [3, 2, 3, 172, 2] := by decide +kernel
  have b2 : vput bN.k.toNat ++ vput bN.o.toNat ++ mbody bN = [1, 1, 1, 1, 1, 0, 0, 0, 1, 0, 1, 97, 2, 120] := by decide +kernel
  have p1 := mput_ok c1
  have p2 := mput_ok c2
  rw [b1] at p1
  rw [b2] at p2
  have t1 := mtake_mput c1
  have t2 := mtake_mput c2
  rw [p1] at t1
  rw [p2] at t2
  have hne : turnF 20 5 (sealF [1, 1, 1, 1, 1, 0, 0, 0, 1, 0, 1, 97, 2, 120]) ≠ sealF [1, 1, 1, 1, 1, 0, 0, 0, 1, 0, 1, 97, 2, 120] := by decide +kernel
  have hb := (bursts_law [1, 1, 1, 1, 1, 0, 0, 0, 1, 0, 1, 97, 2, 120] 20 5).2 hne
  have r1 : (mread [2, 3, 0]).2 = 9 := by decide +kernel
  have r2 : (mread [3, 0, 0, 1]).2 = 1 := by decide +kernel
  refine ⟨_, _, _, _, _, p1, t1, p2, t2, rfl, ?_, ?_, rfl, ?_, rfl, ?_, by rw [sealF_len]; rfl, rfl, by rw [sealF_len]; rfl, by rw [sealF_len]; rfl, by rw [sealF_len]; rfl, by rw [turnF_len, sealF_len]; rfl⟩
  · unfold mtake; rw [hb.1]; rfl
  · unfold mtake; rfl
  · rw [mtake_seal]; exact Prod.ext (mread_z _ (by rw [r1]; decide)) r1
  · rw [mtake_seal]; exact Prod.ext (mread_z _ (by rw [r2]; decide)) r2
set_option maxRecDepth 100000 in
set_option maxHeartbeats 40000000 in
theorem awake13_s (hK : KT K) : Sp Tryz.prog K 4 [] [] fun u hh => u = .sc (.bool true) ∧ hh = [] := by
  obtain ⟨B, D, G, S, T, pB, tB, pD, tD, gD, tG, t1, sS, tS, sT, tT, lB, kB, lD, lS, lT, lG⟩ := maw
  have cp1 := Sp.lift (mput_s hK bM (by decide) (by decide)) (fun _ => rfl) (fun _ => rfl)
  have cp2 := Sp.lift (mput_s hK bN (by decide) (by decide)) (fun _ => rfl) (fun _ => rfl)
  rw [pB] at cp1
  rw [pD] at cp2
  have ct1 := Sp.lift (mtake_s hK B (by omega)) (fun _ => rfl) (fun _ => rfl)
  have ct2 := Sp.lift (mtake_s hK D (by omega)) (fun _ => rfl) (fun _ => rfl)
  have ct3 := Sp.lift (mtake_s hK G (by omega)) (fun _ => rfl) (fun _ => rfl)
  have ct4 := Sp.lift (mtake_s hK [1] (by decide)) (fun _ => rfl) (fun _ => rfl)
  have ct5 := Sp.lift (mtake_s hK S (by omega)) (fun _ => rfl) (fun _ => rfl)
  have ct6 := Sp.lift (mtake_s hK T (by omega)) (fun _ => rfl) (fun _ => rfl)
  rw [tB] at ct1
  rw [tD] at ct2
  rw [tG] at ct3
  rw [t1] at ct4
  rw [tS] at ct5
  rw [tT] at ct6
  have cu := fun h => turn_s (K := K) D 20 5 (by omega) (by decide) (by decide) h
  rw [gD] at cu
  have cs1 := fun h => seal_s hK [2, 3, 0] (by decide) h
  have cs2 := fun h => seal_s hK [3, 0, 0, 1] (by decide) h
  rw [sS] at cs1
  rw [sT] at cs2
  have cv := fun h => vsame_s (K := K) (B.take 5) [3, 2, 3, 172, 2] h
  rw [show decide (B.take 5 = [3, 2, 3, 172, 2]) = true from decide_eq_true kB] at cv
  have ck1 := Sp.lift (mchk_s (K := K) ⟨2, 0, 0, 0, []⟩ (by decide) (by decide)) (fun _ => rfl) (fun _ => rfl)
  have ck2 := Sp.lift (mchk_s (K := K) ⟨2, 0, 1, 0, []⟩ (by decide) (by decide)) (fun _ => rfl) (fun _ => rfl)
  have ck3 := Sp.lift (mchk_s (K := K) ⟨1, 0, 0, 0, []⟩ (by decide) (by decide)) (fun _ => rfl) (fun _ => rfl)
  rw [show mchk ⟨2, 0, 0, 0, []⟩ = 0 by decide +kernel] at ck1
  rw [show mchk ⟨2, 0, 1, 0, []⟩ = 3 by decide +kernel] at ck2
  rw [show mchk ⟨1, 0, 0, 0, []⟩ = 1 by decide +kernel] at ck3
  have cm1 := Sp.lift (msame_s (K := K) bM bM (by decide) (by decide) (by decide) (by decide)) (fun _ => rfl) (fun _ => rfl)
  have cm2 := Sp.lift (msame_s (K := K) bM bN (by decide) (by decide) (by decide) (by decide)) (fun _ => rfl) (fun _ => rfl)
  rw [show msameF bM bM = true by decide +kernel] at cm1
  rw [show msameF bM bN = false by decide +kernel] at cm2
  clear pB tB pD tD gD tG t1 sS tS sT tT kB lS lT lG
  dsimp only [byV, bM, bN, bT, Msg.z, txs, Tx.d, wrl, Wr.d, List.map] at *
  refine Sp.of_bodyE Tryz.func4 rfl ?_
  intro Q hQ
  simp only [List.replicate, List.length_cons, List.length_nil, Tryz.ntmps4, Nat.reduceAdd, Nat.reduceSub, List.cons_append, List.nil_append, go_sem]
  have hz : True := trivial
  have hy := yieldedV_eq
  have hL := And.intro @lB (@lD)
  repeat' (first | (refine WPV.seqK ?_; intro N hN) | (refine And.intro (hO _ (by kernel_rfl)) ?_; clear hO) | refine gA ?_ | (refine gR (M := noM) ?_; intro N hN ops hy) | (refine gDG (M := noM) ?_; intro N hN ops hy hO) | (refine WPV.condK ?_; intro A hA B hB) | (refine here ?_; refine sS ?_) | refine Both.mk ?_ ?_ | ((with_reducible refine CallO.gd 6 ?_); first | refine CallO.toB Tryz.call6 (cp1 _) ?_ | refine CallO.toB Tryz.call6 (cp2 _) ?_) | ((with_reducible refine CallO.gd 8 ?_); first | refine CallO.toB Tryz.call8 (ct1 _) ?_ | refine CallO.toB Tryz.call8 (ct2 _) ?_ | refine CallO.toB Tryz.call8 (ct3 _) ?_ | refine CallO.toB Tryz.call8 (ct4 _) ?_ | refine CallO.toB Tryz.call8 (ct5 _) ?_ | refine CallO.toB Tryz.call8 (ct6 _) ?_) | ((with_reducible refine CallO.gd 17 ?_); refine CallO.toB Tryz.call17 (cu _) ?_) | ((with_reducible refine CallO.gd 10 ?_); first | refine CallO.toB Tryz.call10 (cs1 _) ?_ | refine CallO.toB Tryz.call10 (cs2 _) ?_) | ((with_reducible refine CallO.gd 14 ?_); refine CallO.toB Tryz.call14 (cv _) ?_) | ((with_reducible refine CallO.gd 12 ?_); first | refine CallO.toB Tryz.call12 (ck1 _) ?_ | refine CallO.toB Tryz.call12 (ck2 _) ?_ | refine CallO.toB Tryz.call12 (ck3 _) ?_) | ((with_reducible refine CallO.gd 16 ?_); first | refine CallO.toB Tryz.call16 (cm1 _) ?_ | refine CallO.toB Tryz.call16 (cm2 _) ?_) | ((with_reducible refine CallP.gd 6 ?_); first | refine CallP.toB Tryz.call6 (cp1 _) ?_ | refine CallP.toB Tryz.call6 (cp2 _) ?_) | ((with_reducible refine CallP.gd 8 ?_); first | refine CallP.toB Tryz.call8 (ct1 _) ?_ | refine CallP.toB Tryz.call8 (ct2 _) ?_ | refine CallP.toB Tryz.call8 (ct3 _) ?_ | refine CallP.toB Tryz.call8 (ct4 _) ?_ | refine CallP.toB Tryz.call8 (ct5 _) ?_ | refine CallP.toB Tryz.call8 (ct6 _) ?_) | ((with_reducible refine CallP.gd 17 ?_); refine CallP.toB Tryz.call17 (cu _) ?_) | ((with_reducible refine CallP.gd 10 ?_); first | refine CallP.toB Tryz.call10 (cs1 _) ?_ | refine CallP.toB Tryz.call10 (cs2 _) ?_) | ((with_reducible refine CallP.gd 14 ?_); refine CallP.toB Tryz.call14 (cv _) ?_) | ((with_reducible refine CallP.gd 12 ?_); first | refine CallP.toB Tryz.call12 (ck1 _) ?_ | refine CallP.toB Tryz.call12 (ck2 _) ?_ | refine CallP.toB Tryz.call12 (ck3 _) ?_) | ((with_reducible refine CallP.gd 16 ?_); first | refine CallP.toB Tryz.call16 (cm1 _) ?_ | refine CallP.toB Tryz.call16 (cm2 _) ?_) | (refine hN _ ?_; try clear hN N; try clear hy ops) | (refine hA ?_; clear hA A hB B; try simp only [hz]) | (refine hB ?_; clear hA A hB B; try simp only [hz]) | (refine gG ?_ ?_ <;> (intro hz; have h := nm hz; try (exfalso; omega)) <;> (have hz := nz hz; try subst hz)) | (rw [if_pos (show _ ∧ _ from ⟨by omega, by omega⟩)]; refine sS ?_) | refine gT ?_ | (clear hN N))
  all_goals (first | exact retZ hQ Tryz.results4 (Desc.re [] rfl) | exact retZN hQ Tryz.results4 (Desc.re [] rfl))
end Go.Proofs.YtgfnpcmehnjopaaGreatDoor
end
section
namespace Go.Proofs.YtgfnpcmehnjopaaGreatDoor
open Go Go.RowKit
set_option linter.unusedVariables false
set_option linter.unusedSimpArgs false
def KW (W : World) : Nat → Obj → Prop := fun b x => b = 0 ∧ W.heap[b]? = some x
abbrev FT (W : World) : Fr := ⟨fun _ _ => False, KW W⟩
theorem DenD.kn {F F' : Fr} {φ : List Pl} {w : World} {r : Value} {x : D} (hs : F'.shut = F.shut) (h : DenD F φ w r x) : DenD F' φ w r x := by
  induction h with
  | sc h => exact .sc h
  | nil => exact .nil
  | sl c hn hcap hk hc hd ih => exact .sl c hn hcap hk (fun i j hi hj => by have := hc i j hi hj; unfold cellP prot at this ⊢; rw [hs]; exact this) ih
theorem Den.kn {W w : World} {φ : List Pl} {r : Value} {x : D} (h : Den F0 φ w r (.d x)) : Den (FT W) φ w r (.d x) := by
  cases h with
  | d h => exact .d (DenD.kn (F := F0) rfl h)
theorem kt_tab {W : World} (ht : Tab W) : KT (KW W) := by
  have h0 := ht 0 (by decide)
  unfold World.cell? at h0
  dsimp only at h0
  split at h0
  · rename_i arr T fr hb
    refine ⟨arr, T, fr, ⟨rfl, hb⟩, fun i hi => ?_⟩
    have := ht i hi
    unfold World.cell? at this
    dsimp only at this
    rw [hb] at this
    simpa using this
  · cases h0
theorem Inv.kw (W : World) : Inv (FT W) [] W [] :=
  ⟨rfl, fun i p o h => by simp at h, fun i j p q b h => by simp at h, fun b o h => h.elim, fun i p b o h => by simp at h, fun b x h => ⟨h.2, fun i p h => by simp at h⟩⟩
theorem Sp.runT {P : Program} {f : FuncId} {vs : List V} {R : V → List Ho → Prop} {w : World} {args : Array Value} (hs : Sp P (KW w) f vs [] R) (hd : DenL (FT w) [] w args.toList vs) :
    Calls P f args w fun e w' => ∃ u v h', e = .returned u ∧ Below w.heap.size w w' ∧ (∃ F φ, Den F φ w' u v) ∧ R v h' := by
  refine (hs _ _ w args rfl (Inv.kw w) hd).mono ?_
  rintro e w' ⟨u, φ', v, h', rfl, he, hi, hd, hr⟩
  exact ⟨u, v, h', rfl, he.below, ⟨_, _, hd⟩, hr⟩
end Go.Proofs.YtgfnpcmehnjopaaGreatDoor
end
