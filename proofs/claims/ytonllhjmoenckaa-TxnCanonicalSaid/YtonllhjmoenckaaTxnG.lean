/- Transactions in plain Lean: what is told is read; what is read is told; the two dictionaries go together. No program stands here. -/
import Derived.Test.YtonllhjmoenckaaTxnR
import Derived.Test.YtonllhjmoenckaaDictL
import Derived.Test.YtonllhjmoenckaaTxnQ
namespace Go.Proofs.Ytonllhjmoenckaa
section
open Go Go.RowKit
set_option linter.unusedVariables false
set_option linter.unusedSimpArgs false

theorem drop_app {α : Type} {b l r : List α} {u : Nat} (h : b.drop u = l ++ r) : b.drop (u + l.length) = r := by
  rw [← List.drop_drop, h, List.drop_left]
theorem num_at {b r : List UInt8} {u n most : Nat} {above : Int} (h : b.drop u = vput n ++ r) (hn : n ≤ most) (hm : most < 18446744073709551616) : numG b u 0 most above = (n, u + (vput n).length, 0) ∧ b.drop (u + (vput n).length) = r := by
  refine ⟨?_, drop_app h⟩
  unfold numG
  rw [if_neg (by simp), h, tk_nat n (by omega) r]
  have e : (UInt64.ofNat n).toNat = n := by rw [UInt64.toNat_ofNat']; omega
  simp only [e]
  rw [if_neg (by omega)]
theorem wtakeF_of {α : Type} {q : α → List UInt8 → Tk × α} {b : List UInt8} {used : Nat} {d d' : α} {k : ByteArray} {z n u : Nat} {er e : Int} (hd : q d (b.drop used) = ((k, (z : Int), er), d')) (hn : numG b (used + z) er 257 4 = (n, u, e)) :
    wtakeF q b used d = if e ≠ 0 ∨ n = 0 then ((⟨k, ⟨#[]⟩, true⟩, u, e), d') else if b.length < u + (n - 1) then ((⟨k, ⟨#[]⟩, false⟩, u, 2), d') else ((⟨k, subT b u (n - 1), false⟩, u + (n - 1), 0), d') := by
  unfold wtakeF
  simp only [hd, Int.toNat_natCast, hn]
theorem wtake_at {b r : List UInt8} {u : Nat} {d : Di} (ok : d.Ok) {a : Wr} (hk : a.k.size ≤ 64) (hv : a.v.size ≤ 256) (hg : a.g = true → a.v = ByteArray.empty) (h : b.drop u = (d.put a.k).1.1 ++ a.val ++ r) :
    wtakeF dtF b u d = ((a, u + ((d.put a.k).1.1 ++ a.val).length, 0), (d.put a.k).2) ∧ b.drop (u + ((d.put a.k).1.1 ++ a.val).length) = r := by
  refine ⟨?_, drop_app h⟩
  have hp : (d.put a.k).1.2 = 0 := by
    unfold Di.put
    rw [if_neg (by omega)]
    split <;> rfl
  rw [List.append_assoc] at h
  have hb := d.back ok a.k (a.val ++ r) hp
  rw [← h] at hb
  have h2 := drop_app h
  generalize (d.put a.k).1.1 = p at *
  generalize (d.put a.k).2 = d' at *
  obtain ⟨k, v, g⟩ := a
  dsimp only [Int.toNat_natCast] at *
  cases g with
  | true =>
    have hv0 : v = ByteArray.empty := hg rfl
    subst hv0
    have hz := vput_zero
    have e1 : Wr.val ⟨k, ByteArray.empty, true⟩ = vput 0 := by rw [hz]; rfl
    rw [e1] at h2 ⊢
    obtain ⟨n1, n2⟩ := num_at (most := 257) (above := 4) h2 (by omega) (by omega)
    rw [wtakeF_of (q := dtF) hb n1, if_pos (.inr rfl)]
    simp only [List.length_append, Nat.add_assoc]
    rfl
  | false =>
    have e1 : Wr.val ⟨k, v, false⟩ = vput (v.size + 1) ++ v.toList := rfl
    rw [e1] at h2 ⊢
    rw [List.append_assoc] at h2
    obtain ⟨n1, n2⟩ := num_at (most := 257) (above := 4) h2 (by omega) (by omega)
    rw [wtakeF_of (q := dtF) hb n1]
    have hs := size_toList v
    have hl : v.size + (u + p.length + (vput (v.size + 1)).length) ≤ b.length := by
      have := congrArg List.length n2
      rw [List.length_drop, List.length_append, hs] at this
      by_cases h0 : u + p.length + (vput (v.size + 1)).length ≤ b.length
      · omega
      · have := congrArg List.length h2
        rw [List.length_drop, List.length_append, List.length_append, hs] at this
        have := List.length_pos_iff.2 (vput_ne (v.size + 1))
        omega
    rw [if_neg (by simp), if_neg (by omega)]
    have e2 : subT b (u + p.length + (vput (v.size + 1)).length) (v.size + 1 - 1) = v := by
      unfold subT
      rw [n2, Nat.add_sub_cancel, ← hs, List.take_left, ByteArray.toList_eq]
    rw [e2]
    simp only [List.length_append, hs, Nat.add_assoc]
    rfl
theorem wstake_at {b r : List UInt8} : ∀ (w : List Wr) {u : Nat} {d : Di}, d.Ok → (∀ a ∈ w, a.k.size ≤ 64 ∧ a.v.size ≤ 256 ∧ (a.g = true → a.v = ByteArray.empty)) → b.drop u = (wputF dpF d w).1 ++ r →
    wstakeF dtF b w.length u 0 d = ((w, u + (wputF dpF d w).1.length, 0), (wputF dpF d w).2)
  | [], u, d, _, _, h => by simp [wstakeF, wputF]
  | a :: w, u, d, ok, ha, h => by
    obtain ⟨h1, h2, h3⟩ := ha a (by simp)
    have hw : wputF dpF d (a :: w) = ((d.put a.k).1.1 ++ a.val ++ (wputF dpF (d.put a.k).2 w).1, (wputF dpF (d.put a.k).2 w).2) := rfl
    rw [hw] at h ⊢
    dsimp only at h ⊢
    rw [List.append_assoc] at h
    obtain ⟨g1, g2⟩ := wtake_at ok h1 h2 h3 h
    have ih := wstake_at w (ok.put a.k) (fun x hx => ha x (by simp [hx])) g2
    show (if (0 : Int) ≠ 0 then _ else _) = _
    rw [if_neg (by simp), g1]
    dsimp only
    rw [ih]
    simp only [List.length_append, Nat.add_assoc]
theorem take_put_t {x : Cod Di} (ok : x.d.Ok) (hr : rightF x.c = true) {t : Tx} (hc : checkF t = 0) (rest : List UInt8) :
    ttakeF dtF x ((tputF dpF x t).1.1 ++ rest) = ((t, (tputF dpF x t).1.1.length, 0), (tputF dpF x t).2) := by
  obtain ⟨⟨o1, o2⟩, ⟨s1, s2⟩, hrt, hw, ha, _⟩ := check_ok hc
  have e : tputF dpF x t = ((t.headF x.c ++ (wputF dpF x.d t.w).1, 0), ⟨t.c, (wputF dpF x.d t.w).2⟩) := by unfold tputF; rw [if_neg (by rw [hc]; simp)]
  rw [e]
  dsimp only
  generalize hb : t.headF x.c ++ (wputF dpF x.d t.w).1 ++ rest = b
  have h0 : b.drop 0 = vput t.o.toNat ++ (vput t.s.toNat ++ ((cputF x.c t.c).1 ++ (vput t.w.length ++ ((wputF dpF x.d t.w).1 ++ rest)))) := by
    rw [List.drop_zero, ← hb]; unfold Tx.headF; simp only [List.append_assoc]
  obtain ⟨n1, g1⟩ := num_at (most := 4611686018427387903) (above := 1) h0 (by omega) (by omega)
  obtain ⟨n2, g2⟩ := num_at (most := 4611686018427387903) (above := 1) g1 (by omega) (by omega)
  have n3 := take_put x.c t.c (vput t.w.length ++ ((wputF dpF x.d t.w).1 ++ rest)) hr hrt
  rw [← g2] at n3
  have g3 := drop_app g2
  obtain ⟨n4, g4⟩ := num_at (most := 16) (above := 4) g3 hw (by omega)
  have n5 := wstake_at t.w ok ha g4
  unfold ttakeF
  simp only [n1, n2, n3, n4, n5, if_true]
  have et : (⟨((t.o.toNat : Nat) : Int), ((t.s.toNat : Nat) : Int), t.c, t.w⟩ : Tx) = t := by
    obtain ⟨o, s, c, w⟩ := t
    dsimp only at o1 s1 ⊢
    congr 1 <;> omega
  rw [et, hc, if_neg (by simp)]
  unfold Tx.headF
  simp only [List.length_append, Nat.zero_add, Nat.add_assoc]
theorem wput_ok : ∀ (w : List Wr) {d : Di}, d.Ok → (wputF dpF d w).2.Ok
  | [], d, h => h
  | a :: w, d, h => wput_ok w (h.put a.k)
end

section
open Go Go.RowKit
set_option linter.unusedVariables false
set_option linter.unusedSimpArgs false

structure CRel (x : Cod Di) (y : Cod Rdi) (n : Nat) : Prop where
  c : y.c = x.c
  r : rightF x.c = true
  d : Rel x.d y.d n
theorem wput_rel : ∀ (w : List Wr) {d : Di} {r : Rdi} {n : Nat}, Rel d r n → (wputF rpF r w).1 = (wputF dpF d w).1 ∧ ∃ m, m ≤ n + w.length ∧ Rel (wputF dpF d w).2 (wputF rpF r w).2 m
  | [], d, r, n, h => ⟨rfl, n, by simp, h⟩
  | a :: w, d, r, n, h => by
    obtain ⟨e1, m1, h1, r1⟩ := h.put a.k
    obtain ⟨e2, m2, h2, r2⟩ := wput_rel w r1
    rw [wputF_cons, wputF_cons]
    dsimp only [rpF, dpF]
    refine ⟨by rw [e1, e2], m2, by simp only [List.length_cons]; omega, r2⟩
theorem CRel.put {x : Cod Di} {y : Cod Rdi} {n : Nat} (h : CRel x y n) (t : Tx) : (tputF rpF y t).1 = (tputF dpF x t).1 ∧ ∃ m, m ≤ n + 16 ∧ CRel (tputF dpF x t).2 (tputF rpF y t).2 m := by
  unfold tputF
  by_cases hc : checkF t ≠ 0
  · rw [if_pos hc, if_pos hc]; exact ⟨rfl, n, by omega, h⟩
  · rw [if_neg hc, if_neg hc]
    obtain ⟨_, _, hr, hw, _, _⟩ := check_ok (Decidable.not_not.1 hc)
    obtain ⟨e, m, h1, r1⟩ := wput_rel t.w h.d
    exact ⟨by rw [e, h.c], m, by omega, ⟨rfl, hr, r1⟩⟩
theorem wstakeF_err {α : Type} {q : α → List UInt8 → Tk × α} {b : List UInt8} {e : Int} (he : e ≠ 0) : ∀ (n u : Nat) (d : α), wstakeF q b n u e d = (([], u, e), d)
  | 0, _, _ => rfl
  | n + 1, u, d => by
    show (if e ≠ 0 then _ else _) = _
    rw [if_pos he]
theorem wstakeF_one {α : Type} {q : α → List UInt8 → Tk × α} {b : List UInt8} {n u u' : Nat} {e : Int} {d d' : α} {a : Wr} (h : wtakeF q b u d = ((a, u', e), d')) :
    wstakeF q b (n + 1) u 0 d = ((a :: (wstakeF q b n u' e d').1.1, (wstakeF q b n u' e d').1.2.1, (wstakeF q b n u' e d').1.2.2), (wstakeF q b n u' e d').2) := by
  show (if (0 : Int) ≠ 0 then _ else _) = _
  rw [if_neg (by simp)]
  simp only [h]
theorem dtake_nat (d : Di) (b : List UInt8) : ∃ (k : ByteArray) (z : Nat) (er : Int) (d' : Di), d.take b = ((k, (z : Int), er), d') ∧ z ≤ b.length := by
  obtain ⟨h1, h2⟩ := dtake_sz d b
  exact ⟨(d.take b).1.1, (d.take b).1.2.1.toNat, (d.take b).1.2.2, (d.take b).2, by rw [Int.toNat_of_nonneg h1], by omega⟩
theorem ws_rel {b : List UInt8} : ∀ (N used : Nat) {d : Di} {r : Rdi} {n : Nat} (ws : List Wr), Rel d r n →
    (rwsF b N used r ws).1.2.2 = (wstakeF dtF b N used 0 d).1.2.2 ∧ ((wstakeF dtF b N used 0 d).1.2.2 = 0 → (rwsF b N used r ws).1.1 = ws ++ (wstakeF dtF b N used 0 d).1.1 ∧ (rwsF b N used r ws).1.2.1 = (wstakeF dtF b N used 0 d).1.2.1 ∧ ∃ m, m ≤ n + N ∧ Rel (wstakeF dtF b N used 0 d).2 (rwsF b N used r ws).2 m)
  | 0, used, d, r, n, ws, h => by simp only [rwsF, wstakeF]; exact ⟨trivial, fun _ => ⟨by simp, trivial, n, by omega, h⟩⟩
  | N + 1, used, d, r, n, ws, h => by
    obtain ⟨k, z, er, d', hd, hz⟩ := dtake_nat d (b.drop used)
    obtain ⟨e1, m1, h1, r1⟩ := h.take (b.drop used)
    rw [hd] at e1 r1
    obtain ⟨r', hr⟩ : ∃ r', r.take (b.drop used) = ((k, (z : Int), er), r') := ⟨(r.take (b.drop used)).2, Prod.ext e1 rfl⟩
    rw [hr] at r1
    dsimp only at r1
    obtain ⟨p5, n5, e5, h5⟩ : ∃ p m e, tk (b.drop (used + z)) = (p, m, e) := ⟨_, _, _, rfl⟩
    rw [rwsF_of hr h5]
    by_cases her : er ≠ 0
    · have hn : numG b (used + z) er 257 4 = (0, used + z, er) := by unfold numG; rw [if_pos her]
      have hw := wtakeF_of (q := dtF) hd hn
      rw [if_pos (.inl her)] at hw
      rw [wstakeF_one hw, wstakeF_err her, if_pos her]
      exact ⟨rfl, fun h => absurd h her⟩
    · have her := Decidable.not_not.1 her
      subst her
      have hn : numG b (used + z) 0 257 4 = (p5.toNat, used + z + n5, if e5 = 0 ∧ 257 < p5.toNat then 4 else e5) := by
        unfold numG; rw [if_neg (by simp), h5]
      have hw := wtakeF_of (q := dtF) hd hn
      generalize (if e5 = 0 ∧ 257 < p5.toNat then 4 else e5) = e6 at *
      rw [if_neg (by simp)]
      by_cases he6 : e6 ≠ 0
      · rw [if_pos (.inl he6)] at hw
        rw [wstakeF_one hw, wstakeF_err he6, if_pos he6]
        exact ⟨rfl, fun h => absurd h he6⟩
      · have he6 := Decidable.not_not.1 he6
        subst he6
        rw [if_neg (by simp)]
        by_cases h0 : p5.toNat = 0
        · rw [if_pos (.inr h0)] at hw
          rw [wstakeF_one hw, if_pos h0]
          obtain ⟨i1, i2⟩ := ws_rel N (used + z + n5) (ws ++ [⟨k, ⟨#[]⟩, true⟩]) r1
          refine ⟨i1, fun h => ?_⟩
          obtain ⟨i3, i4, m, i5, i6⟩ := i2 h
          exact ⟨by rw [i3]; simp, i4, m, by omega, i6⟩
        · rw [if_neg (by simp [h0])] at hw
          rw [if_neg h0]
          by_cases hs : b.length < used + z + n5 + (p5.toNat - 1)
          · rw [if_pos hs] at hw
            rw [wstakeF_one hw, wstakeF_err (by decide), if_pos hs]
            exact ⟨rfl, fun h => absurd (show (2 : Int) = 0 from h) (by decide)⟩
          · rw [if_neg hs] at hw
            rw [wstakeF_one hw, if_neg hs]
            obtain ⟨i1, i2⟩ := ws_rel N (used + z + n5 + (p5.toNat - 1)) (ws ++ [⟨k, subT b (used + z + n5) (p5.toNat - 1), false⟩]) r1
            refine ⟨i1, fun h => ?_⟩
            obtain ⟨i3, i4, m, i5, i6⟩ := i2 h
            exact ⟨by rw [i3]; simp, i4, m, by omega, i6⟩
theorem numG_err {b : List UInt8} {u most : Nat} {e above : Int} (he : e ≠ 0) : numG b u e most above = (0, u, e) := by unfold numG; rw [if_pos he]
/-- What is read, step by step: an error, or all the parts. -/
theorem CRel.take {x : Cod Di} {y : Cod Rdi} {n : Nat} (h : CRel x y n) (b : List UInt8) :
    ((rtakeF y b).1.2.2 ≠ 0 → ttakeF dtF x b = ((Tx.zero, 0, (rtakeF y b).1.2.2), x)) ∧ ((rtakeF y b).1.2.2 = 0 → (ttakeF dtF x b).1 = (rtakeF y b).1 ∧ ∃ m, m ≤ n + 16 ∧ CRel (ttakeF dtF x b).2 (rtakeF y b).2 m) := by
  obtain ⟨o, u1, e1, h1⟩ : ∃ o u e, numG b 0 0 4611686018427387903 1 = (o, u, e) := ⟨_, _, _, rfl⟩
  unfold rtakeF ttakeF
  simp only [h1, h.c]
  by_cases he1 : e1 ≠ 0
  · simp only [numG_err he1, he1, if_false, ne_eq, not_false_eq_true, if_true, wstakeF_err he1, Nat.add_zero]
    exact ⟨fun _ => trivial, fun h => absurd h id⟩
  have he1 := Decidable.not_not.1 he1
  subst he1
  obtain ⟨s, u2, e2, h2⟩ : ∃ o u e, numG b u1 0 4611686018427387903 1 = (o, u, e) := ⟨_, _, _, rfl⟩
  simp only [h2, ne_eq, not_true_eq_false, if_false]
  by_cases he2 : e2 ≠ 0
  · simp only [numG_err he2, he2, if_false, ne_eq, not_false_eq_true, if_true, wstakeF_err he2, Nat.add_zero]
    exact ⟨fun _ => trivial, fun h => absurd h id⟩
  have he2 := Decidable.not_not.1 he2
  subst he2
  obtain ⟨c, m, e3, h3⟩ : ∃ c m e, ctakeF x.c (b.drop u2) = (c, m, e) := ⟨_, _, _, rfl⟩
  simp only [h3, ne_eq, not_true_eq_false, if_false, if_true]
  by_cases he3 : e3 ≠ 0
  · simp only [numG_err he3, he3, if_false, ne_eq, not_false_eq_true, if_true, wstakeF_err he3, Nat.add_zero]
    exact ⟨fun _ => trivial, fun h => absurd h id⟩
  have he3 := Decidable.not_not.1 he3
  subst he3
  obtain ⟨many, u4, e4, h4⟩ : ∃ o u e, numG b (u2 + m) 0 16 4 = (o, u, e) := ⟨_, _, _, rfl⟩
  simp only [h4, ne_eq, not_true_eq_false, if_false, if_true]
  by_cases he4 : e4 ≠ 0
  · simp only [he4, if_false, ne_eq, not_false_eq_true, if_true, wstakeF_err he4, Nat.add_zero]
    exact ⟨fun _ => trivial, fun h => absurd h id⟩
  have he4 := Decidable.not_not.1 he4
  subst he4
  have hm16 : many ≤ 16 := by
    unfold numG at h4
    rw [if_neg (by simp)] at h4
    simp only [Prod.mk.injEq] at h4
    obtain ⟨rfl, rfl, h5⟩ := h4
    split at h5
    · exact absurd h5 (by decide)
    · omega
  have hcr : rightF c = true := by
    have := ctake_ok (p := x.c) (s := b.drop u2) (by rw [h3])
    rw [h3] at this; exact this.1
  obtain ⟨i1, i2⟩ := ws_rel (b := b) many u4 [] h.d
  generalize rwsF b many u4 y.d [] = R at *
  generalize wstakeF dtF b many u4 0 x.d = W at *
  obtain ⟨⟨rw_, ru, re⟩, rd⟩ := R
  obtain ⟨⟨ww, wu, we⟩, wd⟩ := W
  dsimp only at i1 i2 ⊢
  subst i1
  simp only [not_true_eq_false, if_false]
  by_cases hre : re = 0
  · subst hre
    obtain ⟨i3, i4, m', i5, i6⟩ := i2 rfl
    subst i3 i4
    simp only [List.nil_append, not_true_eq_false, if_false, if_true]
    refine ⟨fun hh => by rw [if_pos hh], fun hh => ?_⟩
    rw [if_neg (by simpa using hh), hh]
    exact ⟨rfl, m', by omega, ⟨rfl, hcr, i6⟩⟩
  · simp only [hre, not_false_eq_true, if_true, if_false]
    exact ⟨fun _ => trivial, fun h => absurd h id⟩
/-- A part of bytes, from a place to another one. -/
def seg (b : List UInt8) (u v : Nat) : List UInt8 := (b.drop u).take (v - u)
theorem seg_app {b : List UInt8} {u v w : Nat} (h1 : u ≤ v) (h2 : v ≤ w) : seg b u v ++ seg b v w = seg b u w := by
  unfold seg
  rw [show w - u = (v - u) + (w - v) by omega, List.take_add, List.drop_drop, show u + (v - u) = v by omega]
theorem num_canon {b : List UInt8} {u most n v : Nat} {above : Int} (ha : above ≠ 0) (hu : u ≤ b.length) (h : numG b u 0 most above = (n, v, 0)) : vput n = seg b u v ∧ u < v ∧ v ≤ b.length ∧ n ≤ most := by
  unfold numG at h
  rw [if_neg (by simp)] at h
  simp only [Prod.mk.injEq] at h
  obtain ⟨rfl, rfl, h3⟩ := h
  split at h3
  · exact absurd h3 ha
  · obtain ⟨k1, k2, k3⟩ := tk_ok h3
    rw [List.length_drop] at k2
    refine ⟨?_, by omega, by omega, by omega⟩
    rw [k3]; unfold seg
    rw [Nat.add_sub_cancel_left]
theorem vput_zero' : vput 0 = [0] := vput_zero
theorem di_canon {d : Di} (ok : d.Ok) {b : List UInt8} {k : ByteArray} {z : Nat} {d' : Di} (h : d.take b = ((k, (z : Int), 0), d')) : d.put k = ((b.take z, 0), d') ∧ 1 ≤ z ∧ z ≤ b.length := by
  have h8 := ok.len
  unfold Di.take at h
  rcases hb : dkOf b with e | ⟨p, u⟩ | ⟨s, u⟩
  · rw [hb] at h
    simp only [Prod.mk.injEq] at h
    exact absurd h.1.2.2 (dkOf_err hb)
  · rw [hb] at h
    dsimp only at h
    have hp := dkOf_place hb
    have hbp : (tk b).2.2 = 0 ∧ (tk b).1.toNat = p ∧ (tk b).2.1 = u := by
      unfold dkOf at hb
      split at hb <;> try cases hb
      split at hb <;> try cases hb
      · rename_i h1 _; exact ⟨Decidable.not_not.1 h1, rfl, rfl⟩
      split at hb <;> try cases hb
      split at hb <;> try cases hb
      split at hb <;> cases hb
    obtain ⟨b1, b2, b3⟩ := hbp
    obtain ⟨k1, k2, k3⟩ := tk_ok b1
    split at h
    · simp only [Prod.mk.injEq] at h; exact absurd h.1.2.2 (by decide)
    · rename_i hle
      simp only [Prod.mk.injEq] at h
      obtain ⟨⟨rfl, h2, _⟩, rfl⟩ := h
      have hz : z = u := by omega
      subst hz
      have hg : d.ks[p - 1]? = some (d.ks.getD (p - 1) ⟨#[]⟩) := by rw [List.getD_eq_getElem?_getD, List.getElem?_eq_getElem (by omega)]; rfl
      have hat := ok.at_get hg
      have hsz := ok.sz _ (List.mem_iff_getElem?.2 ⟨_, hg⟩)
      unfold Di.put
      rw [if_neg (by omega), if_pos (by omega), hat]
      refine ⟨?_, by omega, by omega⟩
      rw [show ((((p - 1 : Nat) : Int)) + 1).toNat = p by omega, ← b2, k3, b3]
  · rw [hb] at h
    dsimp only at h
    split at h
    · simp only [Prod.mk.injEq] at h; exact absurd h.1.2.2 (by decide)
    · rename_i hat
      simp only [Prod.mk.injEq] at h
      obtain ⟨⟨rfl, h2, _⟩, rfl⟩ := h
      have hz : z = u := by omega
      subst hz
      have hs := dkOf_text hb
      unfold dkOf at hb
      split at hb <;> try cases hb
      split at hb <;> try cases hb
      split at hb <;> try cases hb
      split at hb <;> try cases hb
      split at hb <;> try cases hb
      rename_i g1 g2 g3 g4 g5
      obtain ⟨k1, k2, k3⟩ := tk_ok (Decidable.not_not.1 g1)
      obtain ⟨m1, m2, m3⟩ := tk_ok (Decidable.not_not.1 g3)
      rw [Decidable.not_not.1 g2] at k3
      generalize (tk b).2.1 = z at *
      rw [List.length_drop] at m2
      generalize (tk (b.drop z)).2.1 = y at *
      generalize (tk (b.drop z)).1.toNat = l at *
      have hsz : (dkText b (z + y) l).size = l := by
        unfold dkText
        show ((b.drop (z + y)).take l).toArray.size = l
        simp; omega
      have htl : (dkText b (z + y) l).toList = (b.drop (z + y)).take l := by
        rw [ByteArray.toList_eq]; rfl
      unfold Di.put
      rw [if_neg (by omega), if_neg hat, hsz, htl, k3, m3]
      refine ⟨?_, by omega, by omega⟩
      rw [← List.take_add, ← List.drop_drop, show z + y + l = z + y + l by rfl]
      rw [List.take_add (i := z + y), List.drop_drop]
theorem wtake_canon {b : List UInt8} {u v : Nat} {d d' : Di} (ok : d.Ok) {a : Wr} (hu : u ≤ b.length) (h : wtakeF dtF b u d = ((a, v, 0), d')) : (d.put a.k).1.1 ++ a.val = seg b u v ∧ (d.put a.k).2 = d' ∧ u ≤ v ∧ v ≤ b.length := by
  obtain ⟨k, z, er, d1, hd, hz⟩ := dtake_nat d (b.drop u)
  rw [List.length_drop] at hz
  obtain ⟨n, w, e, hn⟩ : ∃ n w e, numG b (u + z) er 257 4 = (n, w, e) := ⟨_, _, _, rfl⟩
  have hw := wtakeF_of (q := dtF) hd hn
  rw [h] at hw
  have he0 : e = 0 := by
    split at hw
    · rename_i hc; simp only [Prod.mk.injEq] at hw; exact hw.1.2.2.symm
    · rename_i hc; simp only [not_or, Decidable.not_not] at hc; exact hc.1
  subst he0
  obtain ⟨_, _, h3, _, _⟩ := numG_ok (by omega) (by decide) hn
  obtain ⟨rfl, _⟩ := h3 rfl
  obtain ⟨c1, c2, c3⟩ := di_canon ok hd
  obtain ⟨n1, n2, n3, n4⟩ := num_canon (by decide) (by omega) hn
  rw [List.length_drop] at c3
  have hseg : (b.drop u).take z = seg b u (u + z) := by unfold seg; rw [Nat.add_sub_cancel_left]
  split at hw
  · rename_i hc
    have h0 : n = 0 := by
      rcases hc with hc | hc
      · exact absurd rfl hc
      · exact hc
    subst h0
    simp only [Prod.mk.injEq] at hw
    obtain ⟨⟨rfl, rfl, _⟩, rfl⟩ := hw
    rw [c1]
    refine ⟨?_, rfl, by omega, by omega⟩
    show (b.drop u).take z ++ [0] = _
    rw [← vput_zero, n1, hseg, seg_app (by omega) (by omega)]
  · rename_i hc
    have h0 : n ≠ 0 := fun h => hc (.inr h)
    split at hw
    · simp only [Prod.mk.injEq] at hw; exact absurd hw.1.2.2 (by decide)
    · rename_i hle
      simp only [Prod.mk.injEq] at hw
      obtain ⟨⟨rfl, rfl, _⟩, rfl⟩ := hw
      rw [c1]
      refine ⟨?_, rfl, by omega, by omega⟩
      have hsz : (subT b w (n - 1)).size = n - 1 := by
        show ((b.drop w).take (n - 1)).toArray.size = n - 1
        simp; omega
      have htl : (subT b w (n - 1)).toList = seg b w (w + (n - 1)) := by
        rw [ByteArray.toList_eq]; unfold seg; rw [Nat.add_sub_cancel_left]; rfl
      show (b.drop u).take z ++ (vput ((subT b w (n - 1)).size + 1) ++ (subT b w (n - 1)).toList) = _
      rw [hsz, htl, show n - 1 + 1 = n by omega, n1, hseg, ← List.append_assoc, seg_app (by omega) (by omega), seg_app (by omega) (by omega)]
theorem ws_canon {b : List UInt8} : ∀ (N : Nat) {u v : Nat} {d d' : Di} {ws : List Wr}, d.Ok → u ≤ b.length → wstakeF dtF b N u 0 d = ((ws, v, 0), d') → ws.length = N ∧ wputF dpF d ws = (seg b u v, d') ∧ u ≤ v ∧ v ≤ b.length ∧ d'.Ok
  | 0, u, v, d, d', ws, ok, hu, h => by
    simp only [wstakeF, Prod.mk.injEq] at h
    obtain ⟨⟨rfl, rfl, _⟩, rfl⟩ := h
    exact ⟨rfl, by simp [wputF, seg], by omega, by omega, ok⟩
  | N + 1, u, v, d, d', ws, ok, hu, h => by
    obtain ⟨a, u', e, d1, hw⟩ : ∃ a u' e d1, wtakeF dtF b u d = ((a, u', e), d1) := ⟨_, _, _, _, rfl⟩
    rw [wstakeF_one hw] at h
    by_cases he : e = 0
    · subst he
      obtain ⟨c1, c2, c3, c4⟩ := wtake_canon ok hu hw
      have ok1 : d1.Ok := by rw [← c2]; exact ok.put a.k
      obtain ⟨ws', v', e', d2, hs⟩ : ∃ ws' v' e' d2, wstakeF dtF b N u' 0 d1 = ((ws', v', e'), d2) := ⟨_, _, _, _, rfl⟩
      rw [hs] at h
      simp only [Prod.mk.injEq] at h
      obtain ⟨⟨rfl, rfl, rfl⟩, rfl⟩ := h
      obtain ⟨i1, i2, i3, i4, i5⟩ := ws_canon N ok1 c4 hs
      refine ⟨by simp [i1], ?_, by omega, i4, i5⟩
      rw [wputF_cons]
      dsimp only [dpF]
      rw [c2, c1]
      rw [i2]
      dsimp only
      rw [seg_app c3 i3]
    · rw [wstakeF_err he] at h
      simp only [Prod.mk.injEq] at h
      exact absurd h.1.2.2 he
theorem put_take_t {x : Cod Di} (ok : x.d.Ok) (hr : rightF x.c = true) {b : List UInt8} {t : Tx} {n : Nat} {x' : Cod Di} (h : ttakeF dtF x b = ((t, n, 0), x')) : tputF dpF x t = ((b.take n, 0), x') ∧ 1 ≤ n ∧ n ≤ b.length ∧ checkF t = 0 ∧ x'.d.Ok ∧ rightF x'.c = true := by
  obtain ⟨o, u1, e1, h1⟩ : ∃ o u e, numG b 0 0 4611686018427387903 1 = (o, u, e) := ⟨_, _, _, rfl⟩
  obtain ⟨s, u2, e2, h2⟩ : ∃ o u e, numG b u1 e1 4611686018427387903 1 = (o, u, e) := ⟨_, _, _, rfl⟩
  obtain ⟨c, m, e3, h3⟩ : ∃ c m e, (if e2 = 0 then ctakeF x.c (b.drop u2) else (⟨0, 0, 0⟩, 0, e2)) = (c, m, e) := ⟨_, _, _, rfl⟩
  obtain ⟨many, u4, e4, h4⟩ : ∃ o u e, numG b (u2 + m) e3 16 4 = (o, u, e) := ⟨_, _, _, rfl⟩
  obtain ⟨ws, u5, e5, d5, h5⟩ : ∃ ws u e d, wstakeF dtF b many u4 e4 x.d = ((ws, u, e), d) := ⟨_, _, _, _, rfl⟩
  have hh : ttakeF dtF x b = if (if e5 = 0 then checkF ⟨o, s, c, ws⟩ else e5) ≠ 0 then ((Tx.zero, 0, if e5 = 0 then checkF ⟨o, s, c, ws⟩ else e5), x) else ((⟨o, s, c, ws⟩, u5, 0), ⟨c, d5⟩) := by
    unfold ttakeF
    simp only [h1, h2, h3, h4, h5]
  rw [h] at hh
  have e50 : e5 = 0 := by
    by_cases h0 : e5 = 0
    · exact h0
    · rw [if_pos (by rw [if_neg h0]; exact h0), if_neg h0] at hh
      simp only [Prod.mk.injEq] at hh
      exact absurd hh.1.2.2.symm h0
  subst e50
  rw [if_pos rfl] at hh
  have hc : checkF ⟨o, s, c, ws⟩ = 0 := by
    by_cases h0 : checkF ⟨o, s, c, ws⟩ = 0
    · exact h0
    · rw [if_pos h0] at hh
      simp only [Prod.mk.injEq] at hh
      exact absurd hh.1.2.2.symm h0
  rw [if_neg (by rw [hc]; simp)] at hh
  simp only [Prod.mk.injEq, and_true] at hh
  obtain ⟨⟨rfl, rfl⟩, rfl⟩ := hh
  have e40 : e4 = 0 := by
    by_cases h0 : e4 = 0
    · exact h0
    · rw [wstakeF_err h0] at h5
      simp only [Prod.mk.injEq] at h5
      exact h5.1.2.2
  subst e40
  obtain ⟨a1, a2, a3, _, _⟩ := numG_ok (Nat.zero_le _) (by decide) h1
  obtain ⟨b1, b2, b3, _, _⟩ := numG_ok a2 (by decide) h2
  have hm : u2 + m ≤ b.length := by
    split at h3
    · have := ctake_le x.c (b.drop u2)
      rw [h3, List.length_drop] at this
      dsimp only at this; omega
    · simp only [Prod.mk.injEq] at h3; omega
  obtain ⟨d1, d2, d3, _, _⟩ := numG_ok hm (by decide) h4
  obtain ⟨rfl, _⟩ := d3 rfl
  have e20 : e2 = 0 := by
    by_cases h0 : e2 = 0
    · exact h0
    · rw [if_neg h0] at h3
      simp only [Prod.mk.injEq] at h3
      exact h3.2.2
  subst e20
  obtain ⟨rfl, _⟩ := b3 rfl
  rw [if_pos rfl] at h3
  obtain ⟨p1, p2, p3, p4⟩ := num_canon (by decide) (Nat.zero_le _) h1
  obtain ⟨q1, q2, q3, q4⟩ := num_canon (by decide) a2 h2
  obtain ⟨r1, r2, r3, r4⟩ := num_canon (by decide) hm h4
  obtain ⟨i1, i2, i3, i4, i5⟩ := ws_canon many ok d2 h5
  have hct := ctake_ok (p := x.c) (s := b.drop u2) (by rw [h3])
  rw [h3] at hct
  dsimp only at hct
  obtain ⟨t1, t2, t3, t4⟩ := hct
  refine ⟨?_, by omega, i4, hc, i5, t1⟩
  unfold tputF
  rw [if_neg (by rw [hc]; simp)]
  dsimp only
  rw [i2]
  unfold Tx.headF
  dsimp only
  rw [Int.toNat_natCast, Int.toNat_natCast, t2, i1, p1, q1, r1]
  dsimp only
  have hseg : (b.drop u2).take m = seg b u2 (u2 + m) := by unfold seg; rw [Nat.add_sub_cancel_left]
  rw [hseg, seg_app (by omega) (by omega), seg_app (by omega) (by omega), seg_app (by omega) (by omega), seg_app (by omega) (by omega)]
  unfold seg
  rw [List.drop_zero, Nat.sub_zero]
end
end Go.Proofs.Ytonllhjmoenckaa
