/- Parts of the proofs, joined: TxnG, RD3, RDT4, TxnD. -/
import Derived.Test.YtgfnpcmehnjopaaGreatDoorT1
import Derived.Test.YtgfnpcmehnjopaaGreatDoorT9
import Derived.Test.YtgfnpcmehnjopaaGreatDoorT10
import Derived.Test.YtgfnpcmehnjopaaGreatDoorT11
import Derived.Test.YtgfnpcmehnjopaaGreatDoorT12
section
namespace Go.Proofs.YtgfnpcmehnjopaaGreatDoor
section
open Go Go.RowKit
set_option linter.unusedVariables false
set_option linter.unusedSimpArgs false
theorem drop_app {α : Type} {b l r : List α} {u : Nat} (h : b.drop u = l ++ r) : b.drop (u + l.length) = r := by
  rw [← List.drop_drop, h, List.drop_left]
theorem num_at {b r : List UInt8} {u n most : Nat} {above : Int} (h : b.drop u = vput n ++ r) (hn : n ≤ most) (hm : most < 18446744073709551616) : numG b u 0 most above = (n, u + (vput n).length, 0) ∧ b.drop (u + (vput n).length) = r := by
  refine ⟨?_, drop_app h⟩
  unfold numG
  rw [if_neg (by simp), h, tk_nat n (by omega) r]
  have e : (UInt64.ofNat n).toNat = n := by rw [UInt64.toNat_ofNat']; omega
  simp only [e]
  rw [if_neg (by omega)]
theorem wtakeF_of {α : Type} {q : α → List UInt8 → Tk × α} {b : List UInt8} {used : Nat} {d d' : α} {k : ByteArray} {z n u : Nat} {er e : Int} (hd : q d (b.drop used) = ((k, (z : Int), er), d')) (hn : numG b (used + z) er 257 4 = (n, u, e)) :
    wtakeF q b used d = if e ≠ 0 ∨ n = 0 then ((⟨k, ⟨#[]⟩, true⟩, u, e), d') else if b.length < u + (n - 1) then ((⟨k, ⟨#[]⟩, false⟩, u, 2), d') else ((⟨k, subT b u (n - 1), false⟩, u + (n - 1), 0), d') := by
  unfold wtakeF
  simp only [hd, Int.toNat_natCast, hn]
theorem wtake_at {b r : List UInt8} {u : Nat} {d : Di} (ok : d.Ok) {a : Wr} (hk : a.k.size ≤ 64) (hv : a.v.size ≤ 256) (hg : a.g = true → a.v = ByteArray.empty) (h : b.drop u = (d.put a.k).1.1 ++ a.val ++ r) :
    wtakeF dtF b u d = ((a, u + ((d.put a.k).1.1 ++ a.val).length, 0), (d.put a.k).2) ∧ b.drop (u + ((d.put a.k).1.1 ++ a.val).length) = r := by
  refine ⟨?_, drop_app h⟩
  have hp : (d.put a.k).1.2 = 0 := by
    unfold Di.put
    rw [if_neg (by omega)]
    split <;> rfl
  rw [List.append_assoc] at h
  have hb := d.back ok a.k (a.val ++ r) hp
  rw [← h] at hb
  have h2 := drop_app h
  generalize (d.put a.k).1.1 = p at *
  generalize (d.put a.k).2 = d' at *
  obtain ⟨k, v, g⟩ := a
  dsimp only [Int.toNat_natCast] at *
  cases g with
  | true =>
    have hv0 : v = ByteArray.empty := hg rfl
    subst hv0
    have hz := vput_zero
    have e1 : Wr.val ⟨k, ByteArray.empty, true⟩ = vput 0 := by rw [hz]; rfl
    rw [e1] at h2 ⊢
    obtain ⟨n1, n2⟩ := num_at (most := 257) (above := 4) h2 (by omega) (by omega)
    rw [wtakeF_of (q := dtF) hb n1, if_pos (.inr rfl)]
    simp only [List.length_append, Nat.add_assoc]
    rfl
  | false =>
    have e1 : Wr.val ⟨k, v, false⟩ = vput (v.size + 1) ++ v.toList := rfl
    rw [e1] at h2 ⊢
    rw [List.append_assoc] at h2
    obtain ⟨n1, n2⟩ := num_at (most := 257) (above := 4) h2 (by omega) (by omega)
    rw [wtakeF_of (q := dtF) hb n1]
    have hs := size_toList v
    have hl : v.size + (u + p.length + (vput (v.size + 1)).length) ≤ b.length := by
      have := congrArg List.length n2
      rw [List.length_drop, List.length_append, hs] at this
      by_cases h0 : u + p.length + (vput (v.size + 1)).length ≤ b.length
      · omega
      · have := congrArg List.length h2
        rw [List.length_drop, List.length_append, List.length_append, hs] at this
        have := List.length_pos_iff.2 (vput_ne (v.size + 1))
        omega
    rw [if_neg (by simp), if_neg (by omega)]
    have e2 : subT b (u + p.length + (vput (v.size + 1)).length) (v.size + 1 - 1) = v := by
      unfold subT
      rw [n2, Nat.add_sub_cancel, ← hs, List.take_left, ByteArray.toList_eq]
    rw [e2]
    simp only [List.length_append, hs, Nat.add_assoc]
    rfl
theorem wstake_at {b r : List UInt8} : ∀ (w : List Wr) {u : Nat} {d : Di}, d.Ok → (∀ a ∈ w, a.k.size ≤ 64 ∧ a.v.size ≤ 256 ∧ (a.g = true → a.v = ByteArray.empty)) → b.drop u = (wputF dpF d w).1 ++ r →
    wstakeF dtF b w.length u 0 d = ((w, u + (wputF dpF d w).1.length, 0), (wputF dpF d w).2)
  | [], u, d, _, _, h => by simp [wstakeF, wputF]
  | a :: w, u, d, ok, ha, h => by
    obtain ⟨h1, h2, h3⟩ := ha a (by simp)
    have hw : wputF dpF d (a :: w) = ((d.put a.k).1.1 ++ a.val ++ (wputF dpF (d.put a.k).2 w).1, (wputF dpF (d.put a.k).2 w).2) := rfl
    rw [hw] at h ⊢
    dsimp only at h ⊢
    rw [List.append_assoc] at h
    obtain ⟨g1, g2⟩ := wtake_at ok h1 h2 h3 h
    have ih := wstake_at w (ok.put a.k) (fun x hx => ha x (by simp [hx])) g2
    show (if (0 : Int) ≠ 0 then _ else _) = _
    rw [if_neg (by simp), g1]
    dsimp only
    rw [ih]
    simp only [List.length_append, Nat.add_assoc]
theorem take_put_t {x : Cod Di} (ok : x.d.Ok) (hr : rightF x.c = true) {t : Tx} (hc : checkF t = 0) (rest : List UInt8) :
    ttakeF dtF x ((tputF dpF x t).1.1 ++ rest) = ((t, (tputF dpF x t).1.1.length, 0), (tputF dpF x t).2) := by
  obtain ⟨⟨o1, o2⟩, ⟨s1, s2⟩, hrt, hw, ha, _⟩ := check_ok hc
  have e : tputF dpF x t = ((t.headF x.c ++ (wputF dpF x.d t.w).1, 0), ⟨t.c, (wputF dpF x.d t.w).2⟩) := by unfold tputF; rw [if_neg (by rw [hc]; simp)]
  rw [e]
  dsimp only
  generalize hb : t.headF x.c ++ (wputF dpF x.d t.w).1 ++ rest = b
  have h0 : b.drop 0 = vput t.o.toNat ++ (vput t.s.toNat ++ ((cputF x.c t.c).1 ++ (vput t.w.length ++ ((wputF dpF x.d t.w).1 ++ rest)))) := by
    rw [List.drop_zero, ← hb]; unfold Tx.headF; simp only [List.append_assoc]
  obtain ⟨n1, g1⟩ := num_at (most := 4611686018427387903) (above := 1) h0 (by omega) (by omega)
  obtain ⟨n2, g2⟩ := num_at (most := 4611686018427387903) (above := 1) g1 (by omega) (by omega)
  have n3 := take_put x.c t.c (vput t.w.length ++ ((wputF dpF x.d t.w).1 ++ rest)) hr hrt
  rw [← g2] at n3
  have g3 := drop_app g2
  obtain ⟨n4, g4⟩ := num_at (most := 16) (above := 4) g3 hw (by omega)
  have n5 := wstake_at t.w ok ha g4
  unfold ttakeF
  simp only [n1, n2, n3, n4, n5, if_true]
  have et : (⟨((t.o.toNat : Nat) : Int), ((t.s.toNat : Nat) : Int), t.c, t.w⟩ : Tx) = t := by
    obtain ⟨o, s, c, w⟩ := t
    dsimp only at o1 s1 ⊢
    congr 1 <;> omega
  rw [et, hc, if_neg (by simp)]
  unfold Tx.headF
  simp only [List.length_append, Nat.zero_add, Nat.add_assoc]
theorem wput_ok : ∀ (w : List Wr) {d : Di}, d.Ok → (wputF dpF d w).2.Ok
  | [], d, h => h
  | a :: w, d, h => wput_ok w (h.put a.k)
end
section
open Go Go.RowKit
set_option linter.unusedVariables false
set_option linter.unusedSimpArgs false
theorem wstakeF_err {α : Type} {q : α → List UInt8 → Tk × α} {b : List UInt8} {e : Int} (he : e ≠ 0) : ∀ (n u : Nat) (d : α), wstakeF q b n u e d = (([], u, e), d)
  | 0, _, _ => rfl
  | n + 1, u, d => by
    show (if e ≠ 0 then _ else _) = _
    rw [if_pos he]
theorem wstakeF_one {α : Type} {q : α → List UInt8 → Tk × α} {b : List UInt8} {n u u' : Nat} {e : Int} {d d' : α} {a : Wr} (h : wtakeF q b u d = ((a, u', e), d')) :
    wstakeF q b (n + 1) u 0 d = ((a :: (wstakeF q b n u' e d').1.1, (wstakeF q b n u' e d').1.2.1, (wstakeF q b n u' e d').1.2.2), (wstakeF q b n u' e d').2) := by
  show (if (0 : Int) ≠ 0 then _ else _) = _
  rw [if_neg (by simp)]
  simp only [h]
theorem dtake_nat (d : Di) (b : List UInt8) : ∃ (k : ByteArray) (z : Nat) (er : Int) (d' : Di), d.take b = ((k, (z : Int), er), d') ∧ z ≤ b.length := by
  obtain ⟨h1, h2⟩ := dtake_sz d b
  exact ⟨(d.take b).1.1, (d.take b).1.2.1.toNat, (d.take b).1.2.2, (d.take b).2, by rw [Int.toNat_of_nonneg h1], by omega⟩
theorem numG_err {b : List UInt8} {u most : Nat} {e above : Int} (he : e ≠ 0) : numG b u e most above = (0, u, e) := by unfold numG; rw [if_pos he]
def seg (b : List UInt8) (u v : Nat) : List UInt8 := (b.drop u).take (v - u)
theorem seg_app {b : List UInt8} {u v w : Nat} (h1 : u ≤ v) (h2 : v ≤ w) : seg b u v ++ seg b v w = seg b u w := by
  unfold seg
  rw [show w - u = (v - u) + (w - v) by omega, List.take_add, List.drop_drop, show u + (v - u) = v by omega]
theorem num_canon {b : List UInt8} {u most n v : Nat} {above : Int} (ha : above ≠ 0) (hu : u ≤ b.length) (h : numG b u 0 most above = (n, v, 0)) : vput n = seg b u v ∧ u < v ∧ v ≤ b.length ∧ n ≤ most := by
  unfold numG at h
  rw [if_neg (by simp)] at h
  simp only [Prod.mk.injEq] at h
  obtain ⟨rfl, rfl, h3⟩ := h
  split at h3
  · exact absurd h3 ha
  · obtain ⟨k1, k2, k3⟩ := tk_ok h3
    rw [List.length_drop] at k2
    refine ⟨?_, by omega, by omega, by omega⟩
    rw [k3]; unfold seg
    rw [Nat.add_sub_cancel_left]
theorem di_canon {d : Di} (ok : d.Ok) {b : List UInt8} {k : ByteArray} {z : Nat} {d' : Di} (h : d.take b = ((k, (z : Int), 0), d')) : d.put k = ((b.take z, 0), d') ∧ 1 ≤ z ∧ z ≤ b.length := by
  have h8 := ok.len
  unfold Di.take at h
  rcases hb : dkOf b with e | ⟨p, u⟩ | ⟨s, u⟩
  · rw [hb] at h
    simp only [Prod.mk.injEq] at h
    exact absurd h.1.2.2 (dkOf_err hb)
  · rw [hb] at h
    dsimp only at h
    have hp := dkOf_place hb
    have hbp : (tk b).2.2 = 0 ∧ (tk b).1.toNat = p ∧ (tk b).2.1 = u := by
      unfold dkOf at hb
      split at hb <;> try cases hb
      split at hb <;> try cases hb
      · rename_i h1 _; exact ⟨Decidable.not_not.1 h1, rfl, rfl⟩
      split at hb <;> try cases hb
      split at hb <;> try cases hb
      split at hb <;> cases hb
    obtain ⟨b1, b2, b3⟩ := hbp
    obtain ⟨k1, k2, k3⟩ := tk_ok b1
    split at h
    · simp only [Prod.mk.injEq] at h; exact absurd h.1.2.2 (by decide)
    · rename_i hle
      simp only [Prod.mk.injEq] at h
      obtain ⟨⟨rfl, h2, _⟩, rfl⟩ := h
      have hz : z = u := by omega
      subst hz
      have hg : d.ks[p - 1]? = some (d.ks.getD (p - 1) ⟨#[]⟩) := by rw [List.getD_eq_getElem?_getD, List.getElem?_eq_getElem (by omega)]; rfl
      have hat := ok.at_get hg
      have hsz := ok.sz _ (List.mem_iff_getElem?.2 ⟨_, hg⟩)
      unfold Di.put
      rw [if_neg (by omega), if_pos (by omega), hat]
      refine ⟨?_, by omega, by omega⟩
      rw [show ((((p - 1 : Nat) : Int)) + 1).toNat = p by omega, ← b2, k3, b3]
  · rw [hb] at h
    dsimp only at h
    split at h
    · simp only [Prod.mk.injEq] at h; exact absurd h.1.2.2 (by decide)
    · rename_i hat
      simp only [Prod.mk.injEq] at h
      obtain ⟨⟨rfl, h2, _⟩, rfl⟩ := h
      have hz : z = u := by omega
      subst hz
      have hs := dkOf_text hb
      unfold dkOf at hb
      split at hb <;> try cases hb
      split at hb <;> try cases hb
      split at hb <;> try cases hb
      split at hb <;> try cases hb
      split at hb <;> try cases hb
      rename_i g1 g2 g3 g4 g5
      obtain ⟨k1, k2, k3⟩ := tk_ok (Decidable.not_not.1 g1)
      obtain ⟨m1, m2, m3⟩ := tk_ok (Decidable.not_not.1 g3)
      rw [Decidable.not_not.1 g2] at k3
      generalize (tk b).2.1 = z at *
      rw [List.length_drop] at m2
      generalize (tk (b.drop z)).2.1 = y at *
      generalize (tk (b.drop z)).1.toNat = l at *
      have hsz : (dkText b (z + y) l).size = l := by
        unfold dkText
        show ((b.drop (z + y)).take l).toArray.size = l
        simp; omega
      have htl : (dkText b (z + y) l).toList = (b.drop (z + y)).take l := by
        rw [ByteArray.toList_eq]; rfl
      unfold Di.put
      rw [if_neg (by omega), if_neg hat, hsz, htl, k3, m3]
      refine ⟨?_, by omega, by omega⟩
      rw [← List.take_add, ← List.drop_drop, show z + y + l = z + y + l by rfl]
      rw [List.take_add (i := z + y), List.drop_drop]
theorem wtake_canon {b : List UInt8} {u v : Nat} {d d' : Di} (ok : d.Ok) {a : Wr} (hu : u ≤ b.length) (h : wtakeF dtF b u d = ((a, v, 0), d')) : (d.put a.k).1.1 ++ a.val = seg b u v ∧ (d.put a.k).2 = d' ∧ u ≤ v ∧ v ≤ b.length := by
  obtain ⟨k, z, er, d1, hd, hz⟩ := dtake_nat d (b.drop u)
  rw [List.length_drop] at hz
  obtain ⟨n, w, e, hn⟩ : ∃ n w e, numG b (u + z) er 257 4 = (n, w, e) := ⟨_, _, _, rfl⟩
  have hw := wtakeF_of (q := dtF) hd hn
  rw [h] at hw
  have he0 : e = 0 := by
    split at hw
    · rename_i hc; simp only [Prod.mk.injEq] at hw; exact hw.1.2.2.symm
    · rename_i hc; simp only [not_or, Decidable.not_not] at hc; exact hc.1
  subst he0
  obtain ⟨_, _, h3, _, _⟩ := numG_ok (by omega) (by decide) hn
  obtain ⟨rfl, _⟩ := h3 rfl
  obtain ⟨c1, c2, c3⟩ := di_canon ok hd
  obtain ⟨n1, n2, n3, n4⟩ := num_canon (by decide) (by omega) hn
  rw [List.length_drop] at c3
  have hseg : (b.drop u).take z = seg b u (u + z) := by unfold seg; rw [Nat.add_sub_cancel_left]
  split at hw
  · rename_i hc
    have h0 : n = 0 := by
      rcases hc with hc | hc
      · exact absurd rfl hc
      · exact hc
    subst h0
    simp only [Prod.mk.injEq] at hw
    obtain ⟨⟨rfl, rfl, _⟩, rfl⟩ := hw
    rw [c1]
    refine ⟨?_, rfl, by omega, by omega⟩
    show (b.drop u).take z ++ [0] = _
    rw [← vput_zero, n1, hseg, seg_app (by omega) (by omega)]
  · rename_i hc
    have h0 : n ≠ 0 := fun h => hc (.inr h)
    split at hw
    · simp only [Prod.mk.injEq] at hw; exact absurd hw.1.2.2 (by decide)
    · rename_i hle
      simp only [Prod.mk.injEq] at hw
      obtain ⟨⟨rfl, rfl, _⟩, rfl⟩ := hw
      rw [c1]
      refine ⟨?_, rfl, by omega, by omega⟩
      have hsz : (subT b w (n - 1)).size = n - 1 := by
        show ((b.drop w).take (n - 1)).toArray.size = n - 1
        simp; omega
      have htl : (subT b w (n - 1)).toList = seg b w (w + (n - 1)) := by
        rw [ByteArray.toList_eq]; unfold seg; rw [Nat.add_sub_cancel_left]; rfl
      show (b.drop u).take z ++ (vput ((subT b w (n - 1)).size + 1) ++ (subT b w (n - 1)).toList) = _
      rw [hsz, htl, show n - 1 + 1 = n by omega, n1, hseg, ← List.append_assoc, seg_app (by omega) (by omega), seg_app (by omega) (by omega)]
theorem ws_canon {b : List UInt8} : ∀ (N : Nat) {u v : Nat} {d d' : Di} {ws : List Wr}, d.Ok → u ≤ b.length → wstakeF dtF b N u 0 d = ((ws, v, 0), d') → ws.length = N ∧ wputF dpF d ws = (seg b u v, d') ∧ u ≤ v ∧ v ≤ b.length ∧ d'.Ok
  | 0, u, v, d, d', ws, ok, hu, h => by
    simp only [wstakeF, Prod.mk.injEq] at h
    obtain ⟨⟨rfl, rfl, _⟩, rfl⟩ := h
    exact ⟨rfl, by simp [wputF, seg], by omega, by omega, ok⟩
  | N + 1, u, v, d, d', ws, ok, hu, h => by
    obtain ⟨a, u', e, d1, hw⟩ : ∃ a u' e d1, wtakeF dtF b u d = ((a, u', e), d1) := ⟨_, _, _, _, rfl⟩
    rw [wstakeF_one hw] at h
    by_cases he : e = 0
    · subst he
      obtain ⟨c1, c2, c3, c4⟩ := wtake_canon ok hu hw
      have ok1 : d1.Ok := by rw [← c2]; exact ok.put a.k
      obtain ⟨ws', v', e', d2, hs⟩ : ∃ ws' v' e' d2, wstakeF dtF b N u' 0 d1 = ((ws', v', e'), d2) := ⟨_, _, _, _, rfl⟩
      rw [hs] at h
      simp only [Prod.mk.injEq] at h
      obtain ⟨⟨rfl, rfl, rfl⟩, rfl⟩ := h
      obtain ⟨i1, i2, i3, i4, i5⟩ := ws_canon N ok1 c4 hs
      refine ⟨by simp [i1], ?_, by omega, i4, i5⟩
      rw [wputF_cons]
      dsimp only [dpF]
      rw [c2, c1]
      rw [i2]
      dsimp only
      rw [seg_app c3 i3]
    · rw [wstakeF_err he] at h
      simp only [Prod.mk.injEq] at h
      exact absurd h.1.2.2 he
theorem put_take_t {x : Cod Di} (ok : x.d.Ok) (hr : rightF x.c = true) {b : List UInt8} {t : Tx} {n : Nat} {x' : Cod Di} (h : ttakeF dtF x b = ((t, n, 0), x')) : tputF dpF x t = ((b.take n, 0), x') ∧ 1 ≤ n ∧ n ≤ b.length ∧ checkF t = 0 ∧ x'.d.Ok ∧ rightF x'.c = true := by
  obtain ⟨o, u1, e1, h1⟩ : ∃ o u e, numG b 0 0 4611686018427387903 1 = (o, u, e) := ⟨_, _, _, rfl⟩
  obtain ⟨s, u2, e2, h2⟩ : ∃ o u e, numG b u1 e1 4611686018427387903 1 = (o, u, e) := ⟨_, _, _, rfl⟩
  obtain ⟨c, m, e3, h3⟩ : ∃ c m e, (if e2 = 0 then ctakeF x.c (b.drop u2) else (⟨0, 0, 0⟩, 0, e2)) = (c, m, e) := ⟨_, _, _, rfl⟩
  obtain ⟨many, u4, e4, h4⟩ : ∃ o u e, numG b (u2 + m) e3 16 4 = (o, u, e) := ⟨_, _, _, rfl⟩
  obtain ⟨ws, u5, e5, d5, h5⟩ : ∃ ws u e d, wstakeF dtF b many u4 e4 x.d = ((ws, u, e), d) := ⟨_, _, _, _, rfl⟩
  have hh : ttakeF dtF x b = if (if e5 = 0 then checkF ⟨o, s, c, ws⟩ else e5) ≠ 0 then ((Tx.zero, 0, if e5 = 0 then checkF ⟨o, s, c, ws⟩ else e5), x) else ((⟨o, s, c, ws⟩, u5, 0), ⟨c, d5⟩) := by
    unfold ttakeF
    simp only [h1, h2, h3, h4, h5]
  rw [h] at hh
  have e50 : e5 = 0 := by
    by_cases h0 : e5 = 0
    · exact h0
    · rw [if_pos (by rw [if_neg h0]; exact h0), if_neg h0] at hh
      simp only [Prod.mk.injEq] at hh
      exact absurd hh.1.2.2.symm h0
  subst e50
  rw [if_pos rfl] at hh
  have hc : checkF ⟨o, s, c, ws⟩ = 0 := by
    by_cases h0 : checkF ⟨o, s, c, ws⟩ = 0
    · exact h0
    · rw [if_pos h0] at hh
      simp only [Prod.mk.injEq] at hh
      exact absurd hh.1.2.2.symm h0
  rw [if_neg (by rw [hc]; simp)] at hh
  simp only [Prod.mk.injEq, and_true] at hh
  obtain ⟨⟨rfl, rfl⟩, rfl⟩ := hh
  have e40 : e4 = 0 := by
    by_cases h0 : e4 = 0
    · exact h0
    · rw [wstakeF_err h0] at h5
      simp only [Prod.mk.injEq] at h5
      exact h5.1.2.2
  subst e40
  obtain ⟨a1, a2, a3, _, _⟩ := numG_ok (Nat.zero_le _) (by decide) h1
  obtain ⟨b1, b2, b3, _, _⟩ := numG_ok a2 (by decide) h2
  have hm : u2 + m ≤ b.length := by
    split at h3
    · have := ctake_le x.c (b.drop u2)
      rw [h3, List.length_drop] at this
      dsimp only at this; omega
    · simp only [Prod.mk.injEq] at h3; omega
  obtain ⟨d1, d2, d3, _, _⟩ := numG_ok hm (by decide) h4
  obtain ⟨rfl, _⟩ := d3 rfl
  have e20 : e2 = 0 := by
    by_cases h0 : e2 = 0
    · exact h0
    · rw [if_neg h0] at h3
      simp only [Prod.mk.injEq] at h3
      exact h3.2.2
  subst e20
  obtain ⟨rfl, _⟩ := b3 rfl
  rw [if_pos rfl] at h3
  obtain ⟨p1, p2, p3, p4⟩ := num_canon (by decide) (Nat.zero_le _) h1
  obtain ⟨q1, q2, q3, q4⟩ := num_canon (by decide) a2 h2
  obtain ⟨r1, r2, r3, r4⟩ := num_canon (by decide) hm h4
  obtain ⟨i1, i2, i3, i4, i5⟩ := ws_canon many ok d2 h5
  have hct := ctake_ok (p := x.c) (s := b.drop u2) (by rw [h3])
  rw [h3] at hct
  dsimp only at hct
  obtain ⟨t1, t2, t3, t4⟩ := hct
  refine ⟨?_, by omega, i4, hc, i5, t1⟩
  unfold tputF
  rw [if_neg (by rw [hc]; simp)]
  dsimp only
  rw [i2]
  unfold Tx.headF
  dsimp only
  rw [Int.toNat_natCast, Int.toNat_natCast, t2, i1, p1, q1, r1]
  dsimp only
  have hseg : (b.drop u2).take m = seg b u2 (u2 + m) := by unfold seg; rw [Nat.add_sub_cancel_left]
  rw [hseg, seg_app (by omega) (by omega), seg_app (by omega) (by omega), seg_app (by omega) (by omega), seg_app (by omega) (by omega)]
  unfold seg
  rw [List.drop_zero, Nat.sub_zero]
end
end Go.Proofs.YtgfnpcmehnjopaaGreatDoor
end
section
namespace Go.Proofs.YtgfnpcmehnjopaaGreatDoor
open Go Go.RowKit
set_option linter.unusedVariables false
set_option linter.unusedSimpArgs false
variable {K : Nat → Obj → Prop}
def Rdi.ob3 (r : Rdi) (p : Clk) : Ho := .cells [.sc (.int .i64 p.x), .sc (.int .i64 p.y), .sc (.int .i64 p.z), .sl 1 (ds r.ks), .sl 1 (is r.ws), .sc (.int .i64 r.now)]
attribute [go_sem] Rdi.ob3
set_option maxRecDepth 100000 in
set_option maxHeartbeats 4000000 in
theorem rdat3_s (p : Clk) (r : Rdi) (key : ByteArray) (hl : r.ks.length ≤ 1000000) : Sp Tryz.prog K 85 [.ptr 0 3, .sc (.string key)] [r.ob3 p] fun u hh => u = .sc (.int .i64 (r.at_ key)) ∧ hh = [r.ob3 p] := by
  unfold Rdi.ob3
  have hlt : True := trivial
  have hget : True := trivial
  have heq : True := trivial
  have hw : True := trivial
  refine Sp.of_bodyD Tryz.func85 rfl ?_
  intro Q hQ
  simp only [List.replicate, List.length_cons, List.length_nil, Tryz.ntmps85, Nat.reduceAdd, Nat.reduceSub, List.cons_append, List.nil_append, go_sem]
  have hz : True := trivial
  have hy := yieldedV_eq
  have hL := And.intro @hlt (And.intro @hget (And.intro @heq (@hw)))
  repeat' (first | (refine WPV.seqK ?_; intro N hN) | refine gA ?_ | (refine gR (M := noM) ?_; intro N hN ops hy) | (refine gD (M := noM) ?_; intro N hN; have hy := yieldedV_eq) | (refine WPV.condK ?_; intro A hA B hB) | (refine here ?_; refine sM ?_) | refine Both.mk ?_ ?_ | (refine hN _ ?_; try clear hN N; try clear hy ops) | (refine hA ?_; clear hA A hB B; try simp only [hz]) | (refine hB ?_; clear hA A hB B; try simp only [hz]) | (refine gG ?_ ?_ <;> (intro hz; have h := nm hz; try (exfalso; omega)) <;> (have hz := nz hz)) | ((first | rw [if_pos (show _ ∧ _ from ⟨by omega, by omega⟩)] | rw [if_pos (show _ ∧ _ from by simp only [List.length_append, List.length_cons, List.length_nil]; exact ⟨by omega, by omega⟩)]); refine sM ?_) | refine gT ?_ | (clear hN N))
  refine WPV.desc (Desc.weakA (tm' := [.ptr 0 3, .sc (.string key), .any, .any, .any, .sc (.int .i64 ((0 : Nat) : Int)), .any, .any, .any, .any, .any, .any, .any, .any, .any, .any, .any, .any, .any, .any, .any, .any, .any, .any, .any]) (h' := [.cells [.sc (.int .i64 p.x), .sc (.int .i64 p.y), .sc (.int .i64 p.z), .sl 1 (ds r.ks), .sl 1 (is r.ws), .sc (.int .i64 r.now)]])) ?_
  refine WPV.loopA (α := Nat) (fun k => r.ks.length - k) (fun k => ⟨[.ptr 0 3, .sc (.string key), .any, .any, .any, .sc (.int .i64 (k : Int)), .any, .any, .any, .any, .any, .any, .any, .any, .any, .any, .any, .any, .any, .any, .any, .any, .any, .any, .any], [.cells [.sc (.int .i64 p.x), .sc (.int .i64 p.y), .sc (.int .i64 p.z), .sl 1 (ds r.ks), .sl 1 (is r.ws), .sc (.int .i64 r.now)]]⟩) (fun k => k ≤ r.ks.length ∧ idx key (r.ks.drop k) k = r.at_ key) (fun k ⟨hk, hJ⟩ H => ?_) 0 ⟨Nat.zero_le _, rfl⟩
  clear hlt hget heq hw
  by_cases h : k < r.ks.length
  · have hlt : ((k : Int) < (r.ks.length : Int)) = True := by simp; omega
    have hget : r.ks[k]? = some r.ks[k] := List.getElem?_eq_getElem h
    have hw : IntKind.i64.wrap ((k : Int) + 1) = ((k + 1 : Nat) : Int) := by rw [wr_i64 (by omega) (by omega)]; rfl
    rw [idx_drop key r.ks k h] at hJ
    generalize r.ks[k] = s at hget hJ
    refine loopV ?_
    cases heq : s.toList == key.toList with
    | true =>
      rw [heq, if_pos rfl] at hJ
      rw [← hJ] at hQ
      have hz : True := trivial
      have hy := yieldedV_eq
      have hL := And.intro @hlt (And.intro @hget (And.intro @heq (@hw)))
      repeat' (first | (refine WPV.seqK ?_; intro N hN) | refine gA ?_ | (refine gR (M := noM) ?_; intro N hN ops hy) | (refine gD (M := noM) ?_; intro N hN; have hy := yieldedV_eq) | (refine WPV.condK ?_; intro A hA B hB) | (refine here ?_; refine sM ?_) | refine Both.mk ?_ ?_ | (refine hN _ ?_; try clear hN N; try clear hy ops) | (refine hA ?_; clear hA A hB B; try simp only [hz]) | (refine hB ?_; clear hA A hB B; try simp only [hz]) | (refine gG ?_ ?_ <;> (intro hz; have h := nm hz; try (exfalso; omega)) <;> (have hz := nz hz)) | ((first | rw [if_pos (show _ ∧ _ from ⟨by omega, by omega⟩)] | rw [if_pos (show _ ∧ _ from by simp only [List.length_append, List.length_cons, List.length_nil]; exact ⟨by omega, by omega⟩)]); refine sM ?_) | refine gT ?_ | (clear hN N))
      all_goals (apply And.right; refine hQ _ _ _ .refl ?_ ⟨rfl, rfl⟩)
      · (first | (simp only [go_sem, reduceCtorEq, Nat.reduceAdd, Nat.reduceSub, Nat.reduceMul, Nat.reduceLT, Nat.reduceLeDiff, Int.reduceLT, Int.reduceLE, Int.reduceEq, Int.reduceNe, Int.reduceAdd, Int.reduceSub, Int.reduceMul, Int.reduceToNat, Int.reduceNeg, Int.reducePow, Nat.reducePow, Nat.reduceEqDiff, Nat.reduceBEq, Int.reduceBEq, Int.reduceBNe, Int.reduceNegSucc, Tryz.results85]; done) | (simp only [go_sem, reduceCtorEq, Nat.reduceAdd, Nat.reduceSub, Nat.reduceMul, Nat.reduceLT, Nat.reduceLeDiff, Int.reduceLT, Int.reduceLE, Int.reduceEq, Int.reduceNe, Int.reduceAdd, Int.reduceSub, Int.reduceMul, Int.reduceToNat, Int.reduceNeg, Int.reducePow, Nat.reducePow, Nat.reduceEqDiff, Nat.reduceBEq, Int.reduceBEq, Int.reduceBNe, Int.reduceNegSucc, Tryz.results85]; rfl) | rfl)
    | false =>
      rw [heq, if_neg (by simp)] at hJ
      have hz : True := trivial
      have hy := yieldedV_eq
      have hL := And.intro @hlt (And.intro @hget (And.intro @heq (@hw)))
      repeat' (first | (refine WPV.seqK ?_; intro N hN) | refine gA ?_ | (refine gR (M := noM) ?_; intro N hN ops hy) | (refine gD (M := noM) ?_; intro N hN; have hy := yieldedV_eq) | (refine WPV.condK ?_; intro A hA B hB) | (refine here ?_; refine sM ?_) | refine Both.mk ?_ ?_ | (refine hN _ ?_; try clear hN N; try clear hy ops) | (refine hA ?_; clear hA A hB B; try simp only [hz]) | (refine hB ?_; clear hA A hB B; try simp only [hz]) | (refine gG ?_ ?_ <;> (intro hz; have h := nm hz; try (exfalso; omega)) <;> (have hz := nz hz)) | ((first | rw [if_pos (show _ ∧ _ from ⟨by omega, by omega⟩)] | rw [if_pos (show _ ∧ _ from by simp only [List.length_append, List.length_cons, List.length_nil]; exact ⟨by omega, by omega⟩)]); refine sM ?_) | refine gT ?_ | (clear hN N))
      exact WPV.desc Desc.weakA (H (k + 1) ⟨h, hJ⟩ (by omega))
  · have hlt : ((k : Int) < (r.ks.length : Int)) = False := by simp; omega
    have hget : True := trivial
    have heq : True := trivial
    have hw : True := trivial
    rw [List.drop_of_length_le (by omega)] at hJ
    rw [← hJ] at hQ
    refine loopV ?_
    have hz : True := trivial
    have hy := yieldedV_eq
    have hL := And.intro @hlt (And.intro @hget (And.intro @heq (@hw)))
    repeat' (first | (refine WPV.seqK ?_; intro N hN) | refine gA ?_ | (refine gR (M := noM) ?_; intro N hN ops hy) | (refine gD (M := noM) ?_; intro N hN; have hy := yieldedV_eq) | (refine WPV.condK ?_; intro A hA B hB) | (refine here ?_; refine sM ?_) | refine Both.mk ?_ ?_ | (refine hN _ ?_; try clear hN N; try clear hy ops) | (refine hA ?_; clear hA A hB B; try simp only [hz]) | (refine hB ?_; clear hA A hB B; try simp only [hz]) | (refine gG ?_ ?_ <;> (intro hz; have h := nm hz; try (exfalso; omega)) <;> (have hz := nz hz)) | ((first | rw [if_pos (show _ ∧ _ from ⟨by omega, by omega⟩)] | rw [if_pos (show _ ∧ _ from by simp only [List.length_append, List.length_cons, List.length_nil]; exact ⟨by omega, by omega⟩)]); refine sM ?_) | refine gT ?_ | (clear hN N))
    all_goals (apply And.right; refine hQ _ _ _ .refl ?_ ⟨rfl, rfl⟩)
    · (first | (simp only [go_sem, reduceCtorEq, Nat.reduceAdd, Nat.reduceSub, Nat.reduceMul, Nat.reduceLT, Nat.reduceLeDiff, Int.reduceLT, Int.reduceLE, Int.reduceEq, Int.reduceNe, Int.reduceAdd, Int.reduceSub, Int.reduceMul, Int.reduceToNat, Int.reduceNeg, Int.reducePow, Nat.reducePow, Nat.reduceEqDiff, Nat.reduceBEq, Int.reduceBEq, Int.reduceBNe, Int.reduceNegSucc, Tryz.results85]; done) | (simp only [go_sem, reduceCtorEq, Nat.reduceAdd, Nat.reduceSub, Nat.reduceMul, Nat.reduceLT, Nat.reduceLeDiff, Int.reduceLT, Int.reduceLE, Int.reduceEq, Int.reduceNe, Int.reduceAdd, Int.reduceSub, Int.reduceMul, Int.reduceToNat, Int.reduceNeg, Int.reducePow, Nat.reducePow, Nat.reduceEqDiff, Nat.reduceBEq, Int.reduceBEq, Int.reduceBNe, Int.reduceNegSucc, Tryz.results85]; rfl) | rfl)
set_option maxRecDepth 100000 in
set_option maxHeartbeats 4000000 in
theorem rdcomes3_1 (p : Clk) (r : Rdi) (key : ByteArray) (hlen : ((r.ks.length : Int) < 8) = True) (hl : r.ks.length ≤ 8) (hl2 : r.ws.length ≤ 8) (hw : IntKind.i64.wrap (r.now + 1) = r.now + 1) : Sp Tryz.prog K 86 [.ptr 0 3, .sc (.string key)] [r.ob3 p] fun u hh => u = .undef ∧ hh = [(⟨r.ks ++ [key], r.ws ++ [r.now + 1], r.now + 1⟩ : Rdi).ob3 p] := by
  unfold Rdi.ob3
  refine Sp.of_bodyD Tryz.func86 rfl ?_
  intro Q hQ
  simp only [List.replicate, List.length_cons, List.length_nil, Tryz.ntmps86, Nat.reduceAdd, Nat.reduceSub, List.cons_append, List.nil_append, go_sem]
  have hz : True := trivial
  have hy := yieldedV_eq
  have hL := And.intro @hlen (@hw)
  repeat' (first | (refine WPV.seqK ?_; intro N hN) | refine gA ?_ | (refine gR (M := noM) ?_; intro N hN ops hy) | (refine gD (M := noM) ?_; intro N hN; have hy := yieldedV_eq) | (refine WPV.condK ?_; intro A hA B hB) | (refine here ?_; refine sM ?_) | refine Both.mk ?_ ?_ | (refine hN _ ?_; try clear hN N; try clear hy ops) | (refine hA ?_; clear hA A hB B; try simp only [hz]) | (refine hB ?_; clear hA A hB B; try simp only [hz]) | (refine gG ?_ ?_ <;> (intro hz; have h := nm hz; try (exfalso; omega)) <;> (have hz := nz hz)) | ((first | rw [if_pos (show _ ∧ _ from ⟨by omega, by omega⟩)] | rw [if_pos (show _ ∧ _ from by simp only [List.length_append, List.length_cons, List.length_nil]; exact ⟨by omega, by omega⟩)]); refine sM ?_) | refine gT ?_ | (clear hN N))
  all_goals (apply And.right; refine hQ _ _ .undef (Desc.re [some 0] rfl) ?_ ⟨rfl, ?_⟩)
  · (first | (simp only [go_sem, reduceCtorEq, Nat.reduceAdd, Nat.reduceSub, Nat.reduceMul, Nat.reduceLT, Nat.reduceLeDiff, Int.reduceLT, Int.reduceLE, Int.reduceEq, Int.reduceNe, Int.reduceAdd, Int.reduceSub, Int.reduceMul, Int.reduceToNat, Int.reduceNeg, Int.reducePow, Nat.reducePow, Nat.reduceEqDiff, Nat.reduceBEq, Int.reduceBEq, Int.reduceBNe, Int.reduceNegSucc, Tryz.results86]; done) | (simp only [go_sem, reduceCtorEq, Nat.reduceAdd, Nat.reduceSub, Nat.reduceMul, Nat.reduceLT, Nat.reduceLeDiff, Int.reduceLT, Int.reduceLE, Int.reduceEq, Int.reduceNe, Int.reduceAdd, Int.reduceSub, Int.reduceMul, Int.reduceToNat, Int.reduceNeg, Int.reducePow, Nat.reducePow, Nat.reduceEqDiff, Nat.reduceBEq, Int.reduceBEq, Int.reduceBNe, Int.reduceNegSucc, Tryz.results86]; rfl) | rfl)
  · (first | (simp only [go_sem, reduceCtorEq, Nat.reduceAdd, Nat.reduceSub, Nat.reduceMul, Nat.reduceLT, Nat.reduceLeDiff, Int.reduceLT, Int.reduceLE, Int.reduceEq, Int.reduceNe, Int.reduceAdd, Int.reduceSub, Int.reduceMul, Int.reduceToNat, Int.reduceNeg, Int.reducePow, Nat.reducePow, Nat.reduceEqDiff, Nat.reduceBEq, Int.reduceBEq, Int.reduceBNe, Int.reduceNegSucc]; done) | (simp only [go_sem, reduceCtorEq, Nat.reduceAdd, Nat.reduceSub, Nat.reduceMul, Nat.reduceLT, Nat.reduceLeDiff, Int.reduceLT, Int.reduceLE, Int.reduceEq, Int.reduceNe, Int.reduceAdd, Int.reduceSub, Int.reduceMul, Int.reduceToNat, Int.reduceNeg, Int.reducePow, Nat.reducePow, Nat.reduceEqDiff, Nat.reduceBEq, Int.reduceBEq, Int.reduceBNe, Int.reduceNegSucc]; rfl) | rfl)
set_option maxRecDepth 100000 in
set_option maxHeartbeats 4000000 in
theorem rdcomes3_2 (p : Clk) (r : Rdi) (key : ByteArray) (hlen : ((r.ks.length : Int) < 8) = False) (hl : r.ks.length = 8) (hl2 : r.ws.length = 8) (hw : IntKind.i64.wrap (r.now + 1) = r.now + 1) : Sp Tryz.prog K 86 [.ptr 0 3, .sc (.string key)] [r.ob3 p] fun u hh => u = .undef ∧ hh = [(⟨r.ks.set (firstN r.ws 8) key, r.ws.set (firstN r.ws 8) (r.now + 1), r.now + 1⟩ : Rdi).ob3 p] := by
  unfold Rdi.ob3
  have hi : True := trivial
  have hg1 : True := trivial
  have hg2 : True := trivial
  have hlt1 : True := trivial
  have hlt2 : True := trivial
  have hcmp : True := trivial
  have hwi : True := trivial
  have hf1 : True := trivial
  have hf2 : True := trivial
  have hs1 : True := trivial
  have hs2 : True := trivial
  have ht1 : True := trivial
  have ht2 : True := trivial
  have hc1 : True := trivial
  have hc2 : True := trivial
  refine Sp.of_bodyD Tryz.func86 rfl ?_
  intro Q hQ
  simp only [List.replicate, List.length_cons, List.length_nil, Tryz.ntmps86, Nat.reduceAdd, Nat.reduceSub, List.cons_append, List.nil_append, go_sem]
  have hz : True := trivial
  have hy := yieldedV_eq
  have hL := And.intro @hlen (And.intro @hw (And.intro @hi (And.intro @hg1 (And.intro @hg2 (And.intro @hlt1 (And.intro @hlt2 (And.intro @hcmp (And.intro @hwi (And.intro @hf1 (And.intro @hf2 (And.intro @hs1 (And.intro @hs2 (And.intro @ht1 (And.intro @ht2 (And.intro @hc1 (@hc2))))))))))))))))
  repeat' (first | (refine WPV.seqK ?_; intro N hN) | refine gA ?_ | (refine gR (M := inM [83, 84]) ?_; intro N hN ops hy) | (refine gD (M := inM [83, 84]) ?_; intro N hN; have hy := yieldedV_eq) | (refine WPV.condK ?_; intro A hA B hB) | (refine here ?_; simp (config := {contextual := true, maxSteps := 1000000}) only [hy, hz, go_sem, reduceCtorEq, Nat.reduceAdd, Nat.reduceSub, Nat.reduceMul, Nat.reduceLT, Nat.reduceLeDiff, Int.reduceLT, Int.reduceLE, Int.reduceEq, Int.reduceNe, Int.reduceAdd, Int.reduceSub, Int.reduceMul, Int.reduceToNat, Int.reduceNeg, Int.reducePow, Nat.reducePow, Nat.reduceEqDiff, Nat.reduceBEq, Int.reduceBEq, Int.reduceBNe, Int.reduceNegSucc, hlen, hw, hi, hg1, hg2, hlt1, hlt2, hcmp, hwi, hf1, hf2, hs1, hs2, ht1, ht2, hc1, hc2, List.length_set]) | refine Both.mk ?_ ?_ | (refine hN _ ?_; try clear hN N; try clear hy ops) | (refine hA ?_; clear hA A hB B; try simp only [hz]) | (refine hB ?_; clear hA A hB B; try simp only [hz]) | (refine gG ?_ ?_ <;> (intro hz; have h := nm hz; try (exfalso; omega)) <;> (have hz := nz hz)) | ((first | rw [if_pos (show _ ∧ _ from ⟨by omega, by omega⟩)] | rw [if_pos (show _ ∧ _ from by simp only [List.length_append, List.length_cons, List.length_nil]; exact ⟨by omega, by omega⟩)]); simp (config := {contextual := true, maxSteps := 1000000}) only [hy, hz, go_sem, reduceCtorEq, Nat.reduceAdd, Nat.reduceSub, Nat.reduceMul, Nat.reduceLT, Nat.reduceLeDiff, Int.reduceLT, Int.reduceLE, Int.reduceEq, Int.reduceNe, Int.reduceAdd, Int.reduceSub, Int.reduceMul, Int.reduceToNat, Int.reduceNeg, Int.reducePow, Nat.reducePow, Nat.reduceEqDiff, Nat.reduceBEq, Int.reduceBEq, Int.reduceBNe, Int.reduceNegSucc, hlen, hw, hi, hg1, hg2, hlt1, hlt2, hcmp, hwi, hf1, hf2, hs1, hs2, ht1, ht2, hc1, hc2, List.length_set]) | refine gT ?_ | (clear hN N))
  have e0 : (0 : Int) = ((firstN r.ws 1 : Nat) : Int) := by simp [firstN]
  refine WPV.desc (Desc.weakA (tm' := [.ptr 0 3, .sc (.string key), .any, .any, .sc (.int .i64 (0 : Int)), .sc (.int .i64 ((1 : Nat) : Int)), .any, .any, .any, .any, .any, .any, .any, .any, .any, .any, .any, .any, .any, .any, .any, .any, .any, .any, .any, .any, .any, .any, .any, .any, .any, .any, .any, .any, .any, .any, .any, .any, .any, .any, .any, .any, .any, .any, .any, .any, .any, .any, .any, .any, .any, .any, .any, .any, .any, .any, .any, .any, .any, .any, .any, .any, .any, .any, .any, .any, .any, .any, .any, .any, .any, .any, .any, .any, .any, .any, .any, .any, .any, .any, .any, .any, .any, .any, .any, .any, .any, .any, .any, .any, .any, .any, .any, .any, .any, .any, .any, .any, .any, .any, .any]) (h' := [.cells [.sc (.int .i64 p.x), .sc (.int .i64 p.y), .sc (.int .i64 p.z), .sl 1 (ds r.ks), .sl 1 (is r.ws), .sc (.int .i64 (r.now + 1))]])) ?_
  rw [e0]
  refine WPV.loopA (α := Nat) (fun k => 8 - k) (fun k => ⟨[.ptr 0 3, .sc (.string key), .any, .any, .sc (.int .i64 (firstN r.ws k : Nat)), .sc (.int .i64 (k : Int)), .any, .any, .any, .any, .any, .any, .any, .any, .any, .any, .any, .any, .any, .any, .any, .any, .any, .any, .any, .any, .any, .any, .any, .any, .any, .any, .any, .any, .any, .any, .any, .any, .any, .any, .any, .any, .any, .any, .any, .any, .any, .any, .any, .any, .any, .any, .any, .any, .any, .any, .any, .any, .any, .any, .any, .any, .any, .any, .any, .any, .any, .any, .any, .any, .any, .any, .any, .any, .any, .any, .any, .any, .any, .any, .any, .any, .any, .any, .any, .any, .any, .any, .any, .any, .any, .any, .any, .any, .any, .any, .any, .any, .any, .any, .any], [.cells [.sc (.int .i64 p.x), .sc (.int .i64 p.y), .sc (.int .i64 p.z), .sl 1 (ds r.ks), .sl 1 (is r.ws), .sc (.int .i64 (r.now + 1))]]⟩) (fun k => 1 ≤ k ∧ k ≤ 8) (fun k ⟨hk1, hk⟩ H => ?_) 1 ⟨by omega, by omega⟩
  clear hi hg1 hg2 hlt1 hlt2 hcmp hwi
  have hfl := firstN_lt r.ws k (by omega)
  by_cases h : k < 8
  · have hi : ((k : Int) < 8) = True := by simp; omega
    have hg1 : r.ws[k]? = some (r.ws.getD k 0) := by rw [List.getD_eq_getElem?_getD, List.getElem?_eq_getElem (by omega)]; rfl
    have hg2 : r.ws[firstN r.ws k]? = some (r.ws.getD (firstN r.ws k) 0) := by rw [List.getD_eq_getElem?_getD, List.getElem?_eq_getElem (by omega)]; rfl
    have hlt1 : ((k : Int) < (r.ws.length : Int)) = True := by simp; omega
    have hlt2 : (((firstN r.ws k : Nat) : Int) < (r.ws.length : Int)) = True := by simp; omega
    have hwi : IntKind.i64.wrap ((k : Int) + 1) = ((k + 1 : Nat) : Int) := by rw [wr_i64 (by omega) (by omega)]; rfl
    have H' := H (k + 1) ⟨by omega, by omega⟩ (by omega)
    clear H
    unfold firstN at H'
    refine loopV ?_
    by_cases hc : r.ws.getD k 0 < r.ws.getD (firstN r.ws k) 0
    · have hcmp : (r.ws.getD k 0 < r.ws.getD (firstN r.ws k) 0) = True := eq_true hc
      rw [if_pos hc] at H'
      have hz : True := trivial
      have hy := yieldedV_eq
      have hL := And.intro @hlen (And.intro @hw (And.intro @hi (And.intro @hg1 (And.intro @hg2 (And.intro @hlt1 (And.intro @hlt2 (And.intro @hcmp (And.intro @hwi (And.intro @hf1 (And.intro @hf2 (And.intro @hs1 (And.intro @hs2 (And.intro @ht1 (And.intro @ht2 (And.intro @hc1 (@hc2))))))))))))))))
      repeat' (first | (refine WPV.seqK ?_; intro N hN) | refine gA ?_ | (refine gR (M := inM [83, 84]) ?_; intro N hN ops hy) | (refine gD (M := inM [83, 84]) ?_; intro N hN; have hy := yieldedV_eq) | (refine WPV.condK ?_; intro A hA B hB) | (refine here ?_; simp (config := {contextual := true, maxSteps := 1000000}) only [hy, hz, go_sem, reduceCtorEq, Nat.reduceAdd, Nat.reduceSub, Nat.reduceMul, Nat.reduceLT, Nat.reduceLeDiff, Int.reduceLT, Int.reduceLE, Int.reduceEq, Int.reduceNe, Int.reduceAdd, Int.reduceSub, Int.reduceMul, Int.reduceToNat, Int.reduceNeg, Int.reducePow, Nat.reducePow, Nat.reduceEqDiff, Nat.reduceBEq, Int.reduceBEq, Int.reduceBNe, Int.reduceNegSucc, hlen, hw, hi, hg1, hg2, hlt1, hlt2, hcmp, hwi, hf1, hf2, hs1, hs2, ht1, ht2, hc1, hc2, List.length_set]) | refine Both.mk ?_ ?_ | (refine hN _ ?_; try clear hN N; try clear hy ops) | (refine hA ?_; clear hA A hB B; try simp only [hz]) | (refine hB ?_; clear hA A hB B; try simp only [hz]) | (refine gG ?_ ?_ <;> (intro hz; have h := nm hz; try (exfalso; omega)) <;> (have hz := nz hz)) | ((first | rw [if_pos (show _ ∧ _ from ⟨by omega, by omega⟩)] | rw [if_pos (show _ ∧ _ from by simp only [List.length_append, List.length_cons, List.length_nil]; exact ⟨by omega, by omega⟩)]); simp (config := {contextual := true, maxSteps := 1000000}) only [hy, hz, go_sem, reduceCtorEq, Nat.reduceAdd, Nat.reduceSub, Nat.reduceMul, Nat.reduceLT, Nat.reduceLeDiff, Int.reduceLT, Int.reduceLE, Int.reduceEq, Int.reduceNe, Int.reduceAdd, Int.reduceSub, Int.reduceMul, Int.reduceToNat, Int.reduceNeg, Int.reducePow, Nat.reducePow, Nat.reduceEqDiff, Nat.reduceBEq, Int.reduceBEq, Int.reduceBNe, Int.reduceNegSucc, hlen, hw, hi, hg1, hg2, hlt1, hlt2, hcmp, hwi, hf1, hf2, hs1, hs2, ht1, ht2, hc1, hc2, List.length_set]) | refine gT ?_ | (clear hN N))
      exact WPV.desc Desc.weakA H'
    · have hcmp : (r.ws.getD k 0 < r.ws.getD (firstN r.ws k) 0) = False := eq_false hc
      rw [if_neg hc] at H'
      have hz : True := trivial
      have hy := yieldedV_eq
      have hL := And.intro @hlen (And.intro @hw (And.intro @hi (And.intro @hg1 (And.intro @hg2 (And.intro @hlt1 (And.intro @hlt2 (And.intro @hcmp (And.intro @hwi (And.intro @hf1 (And.intro @hf2 (And.intro @hs1 (And.intro @hs2 (And.intro @ht1 (And.intro @ht2 (And.intro @hc1 (@hc2))))))))))))))))
      repeat' (first | (refine WPV.seqK ?_; intro N hN) | refine gA ?_ | (refine gR (M := inM [83, 84]) ?_; intro N hN ops hy) | (refine gD (M := inM [83, 84]) ?_; intro N hN; have hy := yieldedV_eq) | (refine WPV.condK ?_; intro A hA B hB) | (refine here ?_; simp (config := {contextual := true, maxSteps := 1000000}) only [hy, hz, go_sem, reduceCtorEq, Nat.reduceAdd, Nat.reduceSub, Nat.reduceMul, Nat.reduceLT, Nat.reduceLeDiff, Int.reduceLT, Int.reduceLE, Int.reduceEq, Int.reduceNe, Int.reduceAdd, Int.reduceSub, Int.reduceMul, Int.reduceToNat, Int.reduceNeg, Int.reducePow, Nat.reducePow, Nat.reduceEqDiff, Nat.reduceBEq, Int.reduceBEq, Int.reduceBNe, Int.reduceNegSucc, hlen, hw, hi, hg1, hg2, hlt1, hlt2, hcmp, hwi, hf1, hf2, hs1, hs2, ht1, ht2, hc1, hc2, List.length_set]) | refine Both.mk ?_ ?_ | (refine hN _ ?_; try clear hN N; try clear hy ops) | (refine hA ?_; clear hA A hB B; try simp only [hz]) | (refine hB ?_; clear hA A hB B; try simp only [hz]) | (refine gG ?_ ?_ <;> (intro hz; have h := nm hz; try (exfalso; omega)) <;> (have hz := nz hz)) | ((first | rw [if_pos (show _ ∧ _ from ⟨by omega, by omega⟩)] | rw [if_pos (show _ ∧ _ from by simp only [List.length_append, List.length_cons, List.length_nil]; exact ⟨by omega, by omega⟩)]); simp (config := {contextual := true, maxSteps := 1000000}) only [hy, hz, go_sem, reduceCtorEq, Nat.reduceAdd, Nat.reduceSub, Nat.reduceMul, Nat.reduceLT, Nat.reduceLeDiff, Int.reduceLT, Int.reduceLE, Int.reduceEq, Int.reduceNe, Int.reduceAdd, Int.reduceSub, Int.reduceMul, Int.reduceToNat, Int.reduceNeg, Int.reducePow, Nat.reducePow, Nat.reduceEqDiff, Nat.reduceBEq, Int.reduceBEq, Int.reduceBNe, Int.reduceNegSucc, hlen, hw, hi, hg1, hg2, hlt1, hlt2, hcmp, hwi, hf1, hf2, hs1, hs2, ht1, ht2, hc1, hc2, List.length_set]) | refine gT ?_ | (clear hN N))
      exact WPV.desc Desc.weakA H'
  · obtain rfl : k = 8 := by omega
    have hi : (((8 : Nat) : Int) < 8) = False := by simp
    have hg1 : True := trivial
    have hg2 : True := trivial
    have hcmp : True := trivial
    have hwi : True := trivial
    have hlt1 : (((firstN r.ws 8 : Nat) : Int) < (r.ks.length : Int)) = True := by simp; omega
    have hlt2 : (((firstN r.ws 8 : Nat) : Int) < (r.ws.length : Int)) = True := by simp; omega
    have hf1 : (firstN r.ws 8 < r.ks.length) = True := by simp; omega
    have hf2 : (firstN r.ws 8 < r.ws.length) = True := by simp; omega
    have hs1 : (firstN r.ws 8 + 1 ≤ r.ks.length) = True := by simp; omega
    have hs2 : (firstN r.ws 8 + 1 ≤ r.ws.length) = True := by simp; omega
    have hf1' := of_eq_true hf1
    have hf2' := of_eq_true hf2
    generalize firstN r.ws 8 = f at *
    have ht1 := set_eq r.ks key f hf1'
    have ht2 := set_eq r.ws (r.now + 1) f hf2'
    have hc1 : chunks 1 r.ks.length (kd (r.ks.set f key)) = ds (r.ks.set f key) := by have := kd_chunks (r.ks.set f key); rwa [List.length_set] at this
    have hc2 : chunks 1 r.ws.length (id' (r.ws.set f (r.now + 1))) = is (r.ws.set f (r.now + 1)) := by have := id_chunks (r.ws.set f (r.now + 1)); rwa [List.length_set] at this
    refine loopV ?_
    have hz : True := trivial
    have hy := yieldedV_eq
    have hL := And.intro @hlen (And.intro @hw (And.intro @hi (And.intro @hg1 (And.intro @hg2 (And.intro @hlt1 (And.intro @hlt2 (And.intro @hcmp (And.intro @hwi (And.intro @hf1 (And.intro @hf2 (And.intro @hs1 (And.intro @hs2 (And.intro @ht1 (And.intro @ht2 (And.intro @hc1 (@hc2))))))))))))))))
    repeat' (first | (refine WPV.seqK ?_; intro N hN) | refine gA ?_ | (refine gR (M := inM [83, 84]) ?_; intro N hN ops hy) | (refine gD (M := inM [83, 84]) ?_; intro N hN; have hy := yieldedV_eq) | (refine WPV.condK ?_; intro A hA B hB) | (refine here ?_; simp (config := {contextual := true, maxSteps := 1000000}) only [hy, hz, go_sem, reduceCtorEq, Nat.reduceAdd, Nat.reduceSub, Nat.reduceMul, Nat.reduceLT, Nat.reduceLeDiff, Int.reduceLT, Int.reduceLE, Int.reduceEq, Int.reduceNe, Int.reduceAdd, Int.reduceSub, Int.reduceMul, Int.reduceToNat, Int.reduceNeg, Int.reducePow, Nat.reducePow, Nat.reduceEqDiff, Nat.reduceBEq, Int.reduceBEq, Int.reduceBNe, Int.reduceNegSucc, hlen, hw, hi, hg1, hg2, hlt1, hlt2, hcmp, hwi, hf1, hf2, hs1, hs2, ht1, ht2, hc1, hc2, List.length_set]) | refine Both.mk ?_ ?_ | (refine hN _ ?_; try clear hN N; try clear hy ops) | (refine hA ?_; clear hA A hB B; try simp only [hz]) | (refine hB ?_; clear hA A hB B; try simp only [hz]) | (refine gG ?_ ?_ <;> (intro hz; have h := nm hz; try (exfalso; omega)) <;> (have hz := nz hz)) | ((first | rw [if_pos (show _ ∧ _ from ⟨by omega, by omega⟩)] | rw [if_pos (show _ ∧ _ from by simp only [List.length_append, List.length_cons, List.length_nil]; exact ⟨by omega, by omega⟩)]); simp (config := {contextual := true, maxSteps := 1000000}) only [hy, hz, go_sem, reduceCtorEq, Nat.reduceAdd, Nat.reduceSub, Nat.reduceMul, Nat.reduceLT, Nat.reduceLeDiff, Int.reduceLT, Int.reduceLE, Int.reduceEq, Int.reduceNe, Int.reduceAdd, Int.reduceSub, Int.reduceMul, Int.reduceToNat, Int.reduceNeg, Int.reducePow, Nat.reducePow, Nat.reduceEqDiff, Nat.reduceBEq, Int.reduceBEq, Int.reduceBNe, Int.reduceNegSucc, hlen, hw, hi, hg1, hg2, hlt1, hlt2, hcmp, hwi, hf1, hf2, hs1, hs2, ht1, ht2, hc1, hc2, List.length_set]) | refine gT ?_ | (clear hN N))
    all_goals (apply And.left; refine hQ _ _ .undef ((Desc.freeze 2 rfl (kc_toDs _)).trans ((Desc.freeze 4 (by first | rfl | (first | (simp only [go_sem, reduceCtorEq, Nat.reduceAdd, Nat.reduceSub, Nat.reduceMul, Nat.reduceLT, Nat.reduceLeDiff, Int.reduceLT, Int.reduceLE, Int.reduceEq, Int.reduceNe, Int.reduceAdd, Int.reduceSub, Int.reduceMul, Int.reduceToNat, Int.reduceNeg, Int.reducePow, Nat.reducePow, Nat.reduceEqDiff, Nat.reduceBEq, Int.reduceBEq, Int.reduceBNe, Int.reduceNegSucc]; done) | (simp only [go_sem, reduceCtorEq, Nat.reduceAdd, Nat.reduceSub, Nat.reduceMul, Nat.reduceLT, Nat.reduceLeDiff, Int.reduceLT, Int.reduceLE, Int.reduceEq, Int.reduceNe, Int.reduceAdd, Int.reduceSub, Int.reduceMul, Int.reduceToNat, Int.reduceNeg, Int.reducePow, Nat.reducePow, Nat.reduceEqDiff, Nat.reduceBEq, Int.reduceBEq, Int.reduceBNe, Int.reduceNegSucc]; rfl) | rfl)) (ic_toDs _)).trans (Desc.re [some 0] rfl))) ?_ ⟨rfl, ?_⟩)
    · (first | (simp only [go_sem, reduceCtorEq, Nat.reduceAdd, Nat.reduceSub, Nat.reduceMul, Nat.reduceLT, Nat.reduceLeDiff, Int.reduceLT, Int.reduceLE, Int.reduceEq, Int.reduceNe, Int.reduceAdd, Int.reduceSub, Int.reduceMul, Int.reduceToNat, Int.reduceNeg, Int.reducePow, Nat.reducePow, Nat.reduceEqDiff, Nat.reduceBEq, Int.reduceBEq, Int.reduceBNe, Int.reduceNegSucc, Tryz.results86]; done) | (simp only [go_sem, reduceCtorEq, Nat.reduceAdd, Nat.reduceSub, Nat.reduceMul, Nat.reduceLT, Nat.reduceLeDiff, Int.reduceLT, Int.reduceLE, Int.reduceEq, Int.reduceNe, Int.reduceAdd, Int.reduceSub, Int.reduceMul, Int.reduceToNat, Int.reduceNeg, Int.reducePow, Nat.reducePow, Nat.reduceEqDiff, Nat.reduceBEq, Int.reduceBEq, Int.reduceBNe, Int.reduceNegSucc, Tryz.results86]; rfl) | rfl)
    · (first | (simp only [go_sem, reduceCtorEq, Nat.reduceAdd, Nat.reduceSub, Nat.reduceMul, Nat.reduceLT, Nat.reduceLeDiff, Int.reduceLT, Int.reduceLE, Int.reduceEq, Int.reduceNe, Int.reduceAdd, Int.reduceSub, Int.reduceMul, Int.reduceToNat, Int.reduceNeg, Int.reducePow, Nat.reducePow, Nat.reduceEqDiff, Nat.reduceBEq, Int.reduceBEq, Int.reduceBNe, Int.reduceNegSucc, hlen, hw, hi, hg1, hg2, hlt1, hlt2, hcmp, hwi, hf1, hf2, hs1, hs2, ht1, ht2, hc1, hc2, List.length_set]; done) | (simp only [go_sem, reduceCtorEq, Nat.reduceAdd, Nat.reduceSub, Nat.reduceMul, Nat.reduceLT, Nat.reduceLeDiff, Int.reduceLT, Int.reduceLE, Int.reduceEq, Int.reduceNe, Int.reduceAdd, Int.reduceSub, Int.reduceMul, Int.reduceToNat, Int.reduceNeg, Int.reducePow, Nat.reducePow, Nat.reduceEqDiff, Nat.reduceBEq, Int.reduceBEq, Int.reduceBNe, Int.reduceNegSucc, hlen, hw, hi, hg1, hg2, hlt1, hlt2, hcmp, hwi, hf1, hf2, hs1, hs2, ht1, ht2, hc1, hc2, List.length_set]; rfl) | rfl)
theorem rdcomes3_s (p : Clk) (r : Rdi) (key : ByteArray) (h8 : r.ks.length ≤ 8) (hws : r.ws.length = r.ks.length) (hw : 0 ≤ r.now ∧ r.now ≤ 1000000) : Sp Tryz.prog K 86 [.ptr 0 3, .sc (.string key)] [r.ob3 p] fun u hh => u = .undef ∧ hh = [(r.comes key).ob3 p] := by
  unfold Rdi.comes
  by_cases h : r.ks.length < 8
  · rw [if_pos h]; exact rdcomes3_1 p r key (by simp; omega) h8 (by omega) (wr_i64 (by omega) (by omega))
  · rw [if_neg h]; exact rdcomes3_2 p r key (by simp; omega) (by omega) (by omega) (wr_i64 (by omega) (by omega))
set_option maxRecDepth 100000 in
set_option maxHeartbeats 1000000 in
theorem rdput3_s (p : Clk) (r : Rdi) (k : ByteArray) (h8 : r.ks.length ≤ 8) (hws : r.ws.length = r.ks.length) (hn : 0 ≤ r.now ∧ r.now ≤ 1000000) : Sp Tryz.prog K 69 [.ptr 0 3, .sc (.string k)] [r.ob3 p] fun u hh => u = dpV (r.put k).1 ∧ hh = [(r.put k).2.ob3 p] := by
  have hb := idx_bd k r.ks 0
  have hw1 : True := trivial
  have hw2 : True := trivial
  have hw3 : True := trivial
  have hsz : True := trivial
  by_cases h64 : 64 < k.size
  · have e : r.put k = (([], 4), r) := if_pos h64
    rw [e]
    refine Sp.wkR (v := .tup [.sc (.slice none 0 0), .sc (.int .i64 4)]) ?_ (.tup (.null (.same .nil)))
    have hlen : ((64 : Int) < (k.size : Int)) = True := by simp; omega
    have hat : True := trivial
    refine Sp.of_bodyD Tryz.func69 rfl ?_
    intro Q hQ
    simp only [List.replicate, List.length_cons, List.length_nil, Tryz.ntmps69, Nat.reduceAdd, Nat.reduceSub, List.cons_append, List.nil_append, go_sem]
    have hz : True := trivial
    have hy := yieldedV_eq
    have hL := And.intro @hlen (And.intro @hat (And.intro @hw1 (And.intro @hw2 (And.intro @hw3 (@hsz)))))
    repeat' (first | (refine WPV.seqK ?_; intro N hN) | refine gA ?_ | (refine gR (M := noM) ?_; intro N hN ops hy) | (refine gD (M := noM) ?_; intro N hN; have hy := yieldedV_eq) | (refine WPV.condK ?_; intro A hA B hB) | (refine here ?_; refine sM ?_) | refine Both.mk ?_ ?_ | ((with_reducible refine CallO.gd 85 ?_); refine CallO.frA [0] Tryz.call85 (rdat3_s p r k (by omega)) ?_) | ((with_reducible refine CallO.gd 86 ?_); refine CallO.frA [0] Tryz.call86 (rdcomes3_s p r k h8 hws hn) ?_) | ((with_reducible refine CallO.gd 21 ?_); first | refine CallO.toA Tryz.call21 (vrput_s (m := r.at_ k + 1) (by omega) (by omega) _) ?_ | refine CallO.toA Tryz.call21 (vrput_s (m := (k.size : Int)) (by omega) (by omega) _) ?_ | refine CallO.toA Tryz.call21 (vrput_s (m := 0) (by omega) (by omega) _) ?_) | ((with_reducible refine CallP.gd 21 ?_); first | refine CallP.toA Tryz.call21 (vrput_s (m := r.at_ k + 1) (by omega) (by omega) _) ?_ | refine CallP.toA Tryz.call21 (vrput_s (m := (k.size : Int)) (by omega) (by omega) _) ?_ | refine CallP.toA Tryz.call21 (vrput_s (m := 0) (by omega) (by omega) _) ?_) | (refine hN _ ?_; try clear hN N; try clear hy ops) | (refine hA ?_; clear hA A hB B; try simp only [hz]) | (refine hB ?_; clear hA A hB B; try simp only [hz]) | (refine gG ?_ ?_ <;> (intro hz; have h := nm hz; try (exfalso; omega)) <;> (have hz := nz hz)) | ((first | rw [if_pos (show _ ∧ _ from ⟨by omega, by omega⟩)] | rw [if_pos (show _ ∧ _ from by simp only [List.length_append, List.length_cons, List.length_nil]; exact ⟨by omega, by omega⟩)]); refine sM ?_) | refine gT ?_ | (clear hN N))
    all_goals (first | exact retA hQ Tryz.results69 (Desc.re [some 0] rfl) | exact retN hQ Tryz.results69 (Desc.re [some 0] rfl))
  · have hlen : ((64 : Int) < (k.size : Int)) = False := by simp; omega
    by_cases h0 : 0 ≤ r.at_ k
    · have e : r.put k = ((vput (r.at_ k + 1).toNat, 0), r) := by unfold Rdi.put; rw [if_neg h64, if_pos h0]
      rw [e]
      have hat : (0 ≤ r.at_ k) = True := eq_true h0
      have hw2 : IntKind.i64.wrap (r.at_ k + 1) = r.at_ k + 1 := by unfold Rdi.at_; exact wr_i64 (by omega) (by omega)
      have hw3 : IntKind.u64.wrap (r.at_ k + 1) = r.at_ k + 1 := by unfold Rdi.at_ at h0 ⊢; exact wr_u64 (by omega) (by omega)
      have hb' : r.at_ k < 9 := by unfold Rdi.at_; omega
      refine Sp.of_bodyD Tryz.func69 rfl ?_
      intro Q hQ
      simp only [List.replicate, List.length_cons, List.length_nil, Tryz.ntmps69, Nat.reduceAdd, Nat.reduceSub, List.cons_append, List.nil_append, go_sem]
      have hz : True := trivial
      have hy := yieldedV_eq
      have hL := And.intro @hlen (And.intro @hat (And.intro @hw1 (And.intro @hw2 (And.intro @hw3 (@hsz)))))
      repeat' (first | (refine WPV.seqK ?_; intro N hN) | refine gA ?_ | (refine gR (M := noM) ?_; intro N hN ops hy) | (refine gD (M := noM) ?_; intro N hN; have hy := yieldedV_eq) | (refine WPV.condK ?_; intro A hA B hB) | (refine here ?_; refine sM ?_) | refine Both.mk ?_ ?_ | ((with_reducible refine CallO.gd 85 ?_); refine CallO.frA [0] Tryz.call85 (rdat3_s p r k (by omega)) ?_) | ((with_reducible refine CallO.gd 86 ?_); refine CallO.frA [0] Tryz.call86 (rdcomes3_s p r k h8 hws hn) ?_) | ((with_reducible refine CallO.gd 21 ?_); first | refine CallO.toA Tryz.call21 (vrput_s (m := r.at_ k + 1) (by omega) (by omega) _) ?_ | refine CallO.toA Tryz.call21 (vrput_s (m := (k.size : Int)) (by omega) (by omega) _) ?_ | refine CallO.toA Tryz.call21 (vrput_s (m := 0) (by omega) (by omega) _) ?_) | ((with_reducible refine CallP.gd 21 ?_); first | refine CallP.toA Tryz.call21 (vrput_s (m := r.at_ k + 1) (by omega) (by omega) _) ?_ | refine CallP.toA Tryz.call21 (vrput_s (m := (k.size : Int)) (by omega) (by omega) _) ?_ | refine CallP.toA Tryz.call21 (vrput_s (m := 0) (by omega) (by omega) _) ?_) | (refine hN _ ?_; try clear hN N; try clear hy ops) | (refine hA ?_; clear hA A hB B; try simp only [hz]) | (refine hB ?_; clear hA A hB B; try simp only [hz]) | (refine gG ?_ ?_ <;> (intro hz; have h := nm hz; try (exfalso; omega)) <;> (have hz := nz hz)) | ((first | rw [if_pos (show _ ∧ _ from ⟨by omega, by omega⟩)] | rw [if_pos (show _ ∧ _ from by simp only [List.length_append, List.length_cons, List.length_nil]; exact ⟨by omega, by omega⟩)]); refine sM ?_) | refine gT ?_ | (clear hN N))
      all_goals (first | exact retA hQ Tryz.results69 (Desc.re [some 0] rfl) | exact retN hQ Tryz.results69 (Desc.re [some 0] rfl))
    · have e : r.put k = (([0] ++ vput k.size ++ k.toList, 0), r.comes k) := by unfold Rdi.put; rw [if_neg h64, if_neg h0]
      rw [e]
      have hat : (0 ≤ r.at_ k) = False := eq_false h0
      have hw1 : IntKind.u64.wrap (k.size : Int) = (k.size : Int) := wr_u64 (by omega) (by omega)
      have hl1 := vput_len (n := k.size) (by omega)
      have hl3 := size_toList k
      have hsz : (k.size ≤ 70368744177664) = True := by simp; omega
      have hw2 : ∀ l, [D.sc (Value.int .u8 0)] :: bs l = bs (0 :: l) := fun l => rfl
      refine Sp.of_bodyD Tryz.func69 rfl ?_
      intro Q hQ
      simp only [List.replicate, List.length_cons, List.length_nil, Tryz.ntmps69, Nat.reduceAdd, Nat.reduceSub, List.cons_append, List.nil_append, go_sem]
      have hz : True := trivial
      have hy := yieldedV_eq
      have hL := And.intro @hlen (And.intro @hat (And.intro @hw1 (And.intro @hw2 (And.intro @hw3 (@hsz)))))
      repeat' (first | (refine WPV.seqK ?_; intro N hN) | refine gA ?_ | (refine gR (M := noM) ?_; intro N hN ops hy) | (refine gD (M := noM) ?_; intro N hN; have hy := yieldedV_eq) | (refine WPV.condK ?_; intro A hA B hB) | (refine here ?_; refine sM ?_) | refine Both.mk ?_ ?_ | ((with_reducible refine CallO.gd 85 ?_); refine CallO.frA [0] Tryz.call85 (rdat3_s p r k (by omega)) ?_) | ((with_reducible refine CallO.gd 86 ?_); refine CallO.frA [0] Tryz.call86 (rdcomes3_s p r k h8 hws hn) ?_) | ((with_reducible refine CallO.gd 21 ?_); first | refine CallO.toA Tryz.call21 (vrput_s (m := r.at_ k + 1) (by omega) (by omega) _) ?_ | refine CallO.toA Tryz.call21 (vrput_s (m := (k.size : Int)) (by omega) (by omega) _) ?_ | refine CallO.toA Tryz.call21 (vrput_s (m := 0) (by omega) (by omega) _) ?_) | ((with_reducible refine CallP.gd 21 ?_); first | refine CallP.toA Tryz.call21 (vrput_s (m := r.at_ k + 1) (by omega) (by omega) _) ?_ | refine CallP.toA Tryz.call21 (vrput_s (m := (k.size : Int)) (by omega) (by omega) _) ?_ | refine CallP.toA Tryz.call21 (vrput_s (m := 0) (by omega) (by omega) _) ?_) | (refine hN _ ?_; try clear hN N; try clear hy ops) | (refine hA ?_; clear hA A hB B; try simp only [hz]) | (refine hB ?_; clear hA A hB B; try simp only [hz]) | (refine gG ?_ ?_ <;> (intro hz; have h := nm hz; try (exfalso; omega)) <;> (have hz := nz hz)) | ((first | rw [if_pos (show _ ∧ _ from ⟨by omega, by omega⟩)] | rw [if_pos (show _ ∧ _ from by simp only [List.length_append, List.length_cons, List.length_nil]; exact ⟨by omega, by omega⟩)]); refine sM ?_) | refine gT ?_ | (clear hN N))
      all_goals (first | exact retA hQ Tryz.results69 (Desc.re [some 0] rfl) | exact retN hQ Tryz.results69 (Desc.re [some 0] rfl))
end Go.Proofs.YtgfnpcmehnjopaaGreatDoor
end
section
namespace Go.Proofs.YtgfnpcmehnjopaaGreatDoor
open Go Go.RowKit
set_option linter.unusedVariables false
set_option linter.unusedSimpArgs false
variable {K : Nat → Obj → Prop}
theorem Rdi.take_of (d : Rdi) {b : List UInt8} {p q : UInt64} {u v : Nat} {e f : Int} (h1 : tk b = (p, u, e)) (h2 : tk (b.drop u) = (q, v, f)) :
    d.take b = if e ≠ 0 then ((⟨#[]⟩, (0 : Int), e), d) else if d.ks.length < p.toNat then ((⟨#[]⟩, 0, 9), d) else if p.toNat ≠ 0 then ((d.ks.getD (p.toNat - 1) ⟨#[]⟩, u, 0), d) else
      if f ≠ 0 then ((⟨#[]⟩, 0, f), d) else if 64 < q.toNat then ((⟨#[]⟩, 0, 4), d) else if b.length < u + v + q.toNat then ((⟨#[]⟩, 0, 2), d) else
      if 0 ≤ d.at_ (dkText b (u + v) q.toNat) then ((⟨#[]⟩, 0, 3), d) else ((dkText b (u + v) q.toNat, ((u + v + q.toNat : Nat) : Int), 0), d.comes (dkText b (u + v) q.toNat)) := by
  unfold Rdi.take dkOf
  simp only [h1, h2]
  by_cases c1 : e ≠ 0
  · rw [if_pos c1, if_pos c1]
  rw [if_neg c1, if_neg c1]
  by_cases c2 : p.toNat ≠ 0
  · rw [if_pos c2]
    by_cases c3 : d.ks.length < p.toNat
    · rw [if_pos c3]; exact if_pos c3
    · rw [if_neg c3, if_pos c2]; exact if_neg c3
  rw [if_neg c2, if_neg (show ¬ d.ks.length < p.toNat by omega), if_neg c2]
  by_cases c3 : f ≠ 0
  · rw [if_pos c3, if_pos c3]
  rw [if_neg c3, if_neg c3]
  by_cases c4 : 64 < q.toNat
  · rw [if_pos c4, if_pos c4]
  rw [if_neg c4, if_neg c4]
  by_cases c5 : b.length < u + v + q.toNat
  · rw [if_pos c5, if_pos c5]
  rw [if_neg c5, if_neg c5]
set_option maxRecDepth 100000 in
set_option maxHeartbeats 2000000 in
theorem rdtake3_s (c0 : Clk) (d : Rdi) (b : List UInt8) (hl : b.length ≤ 1000000) (h8 : d.ks.length ≤ 8) (hws : d.ws.length = d.ks.length) (hn : 0 ≤ d.now ∧ d.now ≤ 1000000) : Sp Tryz.prog K 88 [.ptr 0 3, .sl 1 (bs b)] [d.ob3 c0] fun x hh => x = dtV (d.take b).1 ∧ hh = [(d.take b).2.ob3 c0] := by
  obtain ⟨p, u, e, h1⟩ : ∃ p u e, tk b = (p, u, e) := ⟨_, _, _, rfl⟩
  have l1 := tk_le b
  rw [h1] at l1
  obtain ⟨q, v, f, h2⟩ : ∃ q v f, tk (b.drop u) = (q, v, f) := ⟨_, _, _, rfl⟩
  have l2 := tk_le (b.drop u)
  rw [h2, List.length_drop] at l2
  dsimp only at l1 l2
  rw [d.take_of h1 h2]
  have g1 : (⟨((b.take ((u : Int) + (v : Int) + (q.toNat : Int)).toNat).drop ((u : Int) + (v : Int)).toNat).toArray⟩ : ByteArray) = dkText b (u + v) q.toNat := by
    unfold dkText
    rw [show ((u : Int) + (v : Int) + (q.toNat : Int)).toNat = u + v + q.toNat by omega, show ((u : Int) + (v : Int)).toNat = u + v by omega, List.drop_take, show u + v + q.toNat - (u + v) = q.toNat by omega]
  have g2 : ((p.toNat : Int) - 1).toNat = p.toNat - 1 := by omega
  have g3 : p.toNat - 1 < d.ks.length → d.ks[p.toNat - 1]? = some (d.ks.getD (p.toNat - 1) ⟨#[]⟩) := fun h => getD_some h _
  have hq := UInt64.toNat_lt q
  have hp := UInt64.toNat_lt p
  refine Sp.of_bodyE Tryz.func88 rfl ?_
  intro Q hQ
  simp only [List.replicate, List.length_cons, List.length_nil, Tryz.ntmps88, Nat.reduceAdd, Nat.reduceSub, List.cons_append, List.nil_append, go_sem]
  have hz : True := trivial
  have hy := yieldedV_eq
  have hL := And.intro @bs_unbs (And.intro @g1 (And.intro @g2 (@g3)))
  repeat' (first | (refine WPV.seqK ?_; intro N hN) | refine gA ?_ | (refine gR (M := noM) ?_; intro N hN ops hy) | (refine gD (M := noM) ?_; intro N hN; have hy := yieldedV_eq) | (refine WPV.condK ?_; intro A hA B hB) | (refine here ?_; refine sS ?_) | refine Both.mk ?_ ?_ | ((with_reducible refine CallO.gd 26 ?_); first | refine CallO.toB Tryz.call26 (vrtake_s h1 (by omega) _) ?_ | refine CallO.toB Tryz.call26 (vrtake_s h2 (by simp only [List.length_drop]; omega) _) ?_) | ((with_reducible refine CallO.gd 85 ?_); refine CallO.frB [0] Tryz.call85 (rdat3_s c0 d (dkText b (u + v) q.toNat) (by omega)) ?_) | ((with_reducible refine CallO.gd 86 ?_); refine CallO.frB [0] Tryz.call86 (rdcomes3_s c0 d (dkText b (u + v) q.toNat) h8 hws hn) ?_) | ((with_reducible refine CallP.gd 26 ?_); first | refine CallP.toB Tryz.call26 (vrtake_s h1 (by omega) _) ?_ | refine CallP.toB Tryz.call26 (vrtake_s h2 (by simp only [List.length_drop]; omega) _) ?_) | (refine hN _ ?_; try clear hN N; try clear hy ops) | (refine hA ?_; clear hA A hB B; try simp only [hz]) | (refine hB ?_; clear hA A hB B; try simp only [hz]) | (refine gG ?_ ?_ <;> (intro hz; have h := nm hz; try (exfalso; omega)) <;> (have hz := nz hz; try subst hz)) | (rw [if_pos (show _ ∧ _ from ⟨by omega, by omega⟩)]; refine sS ?_) | refine gT ?_ | (clear hN N))
  all_goals (first | exact retZ hQ Tryz.results88 (Desc.re [some 0] rfl) | exact retZN hQ Tryz.results88 (Desc.re [some 0] rfl))
end Go.Proofs.YtgfnpcmehnjopaaGreatDoor
end
section
namespace Go.Proofs.YtgfnpcmehnjopaaGreatDoor
open Go Go.RowKit
set_option linter.unusedVariables false
set_option linter.unusedSimpArgs false
variable {K : Nat → Obj → Prop}
theorem long_iff (a : Wr) : a.long = true ↔ 64 < a.k.size ∨ 256 < a.v.size := by simp [Wr.long]
set_option maxRecDepth 100000 in
set_option maxHeartbeats 4000000 in
theorem rtcheck_s (t : Tx) (hl : t.w.length ≤ 9223372036854775807) : Sp Tryz.prog K 32 [txV t] [] fun u hh => u = .sc (.int .i64 (checkF t)) ∧ hh = [] := by
  obtain ⟨o, s, c, w⟩ := t
  have c1 := rcright_s (K := K) c []
  have hx0 := at_get2 c o (.sc (.int .i64 o)) (.sc (.int .i64 s)) [.sl 3 (wrl w)]
  obtain ⟨x, y, z⟩ := c
  dsimp only [clkV] at c1 hx0
  by_cases h1 : o < 0 ∨ 2 < o
  · have e : checkF ⟨o, s, ⟨x, y, z⟩, w⟩ = 9 := by unfold checkF; rw [if_pos h1]
    rw [e]
    have hx := True.intro
    refine Sp.of_bodyE Tryz.func32 rfl ?_
    intro Q hQ
    simp only [List.replicate, List.length_cons, List.length_nil, Tryz.ntmps32, Nat.reduceAdd, Nat.reduceSub, List.cons_append, List.nil_append, go_sem]
    have hz : True := trivial
    have hy := yieldedV_eq
    have hL := @hx
    repeat' (first | (refine WPV.seqK ?_; intro N hN) | refine gA ?_ | (refine gR (M := noM) ?_; intro N hN ops hy) | (refine gD (M := noM) ?_; intro N hN; have hy := yieldedV_eq) | (refine WPV.condK ?_; intro A hA B hB) | (refine here ?_; refine sS ?_) | refine Both.mk ?_ ?_ | ((with_reducible refine CallO.gd 57 ?_); refine CallO.frB [] Tryz.call57 (c1) ?_) | (refine hN _ ?_; try clear hN N; try clear hy ops) | (refine hA ?_; clear hA A hB B; try simp only [hz]) | (refine hB ?_; clear hA A hB B; try simp only [hz]) | (refine gG ?_ ?_ <;> (intro hz; have h := nm hz; try (exfalso; omega)) <;> (have hz := nz hz; try subst hz)) | (rw [if_pos (show _ ∧ _ from ⟨by omega, by omega⟩)]; refine sS ?_) | refine gT ?_ | (clear hN N))
    all_goals (first | exact retZ hQ Tryz.results32 (Desc.re [] rfl) | exact retZN hQ Tryz.results32 (Desc.re [] rfl))
  have hx := hx0 (by omega)
  by_cases h2 : s < 1 ∨ 4611686018427387903 < s ∨ rightF ⟨x, y, z⟩ = false
  · have e : checkF ⟨o, s, ⟨x, y, z⟩, w⟩ = 1 := by unfold checkF; rw [if_neg h1, if_pos h2]
    rw [e]
    cases hr : rightF ⟨x, y, z⟩ with
    | true =>
      rw [hr] at c1 h2
      have h2 : s < 1 ∨ 4611686018427387903 < s := by simpa using h2
      refine Sp.of_bodyE Tryz.func32 rfl ?_
      intro Q hQ
      simp only [List.replicate, List.length_cons, List.length_nil, Tryz.ntmps32, Nat.reduceAdd, Nat.reduceSub, List.cons_append, List.nil_append, go_sem]
      have hz : True := trivial
      have hy := yieldedV_eq
      have hL := @hx
      repeat' (first | (refine WPV.seqK ?_; intro N hN) | refine gA ?_ | (refine gR (M := noM) ?_; intro N hN ops hy) | (refine gD (M := noM) ?_; intro N hN; have hy := yieldedV_eq) | (refine WPV.condK ?_; intro A hA B hB) | (refine here ?_; refine sS ?_) | refine Both.mk ?_ ?_ | ((with_reducible refine CallO.gd 57 ?_); refine CallO.frB [] Tryz.call57 (c1) ?_) | (refine hN _ ?_; try clear hN N; try clear hy ops) | (refine hA ?_; clear hA A hB B; try simp only [hz]) | (refine hB ?_; clear hA A hB B; try simp only [hz]) | (refine gG ?_ ?_ <;> (intro hz; have h := nm hz; try (exfalso; omega)) <;> (have hz := nz hz; try subst hz)) | (rw [if_pos (show _ ∧ _ from ⟨by omega, by omega⟩)]; refine sS ?_) | refine gT ?_ | (clear hN N))
      all_goals (first | exact retZ hQ Tryz.results32 (Desc.re [] rfl) | exact retZN hQ Tryz.results32 (Desc.re [] rfl))
    | false =>
      rw [hr] at c1
      clear h2
      refine Sp.of_bodyE Tryz.func32 rfl ?_
      intro Q hQ
      simp only [List.replicate, List.length_cons, List.length_nil, Tryz.ntmps32, Nat.reduceAdd, Nat.reduceSub, List.cons_append, List.nil_append, go_sem]
      have hz : True := trivial
      have hy := yieldedV_eq
      have hL := @hx
      repeat' (first | (refine WPV.seqK ?_; intro N hN) | refine gA ?_ | (refine gR (M := noM) ?_; intro N hN ops hy) | (refine gD (M := noM) ?_; intro N hN; have hy := yieldedV_eq) | (refine WPV.condK ?_; intro A hA B hB) | (refine here ?_; refine sS ?_) | refine Both.mk ?_ ?_ | ((with_reducible refine CallO.gd 57 ?_); refine CallO.frB [] Tryz.call57 (c1) ?_) | (refine hN _ ?_; try clear hN N; try clear hy ops) | (refine hA ?_; clear hA A hB B; try simp only [hz]) | (refine hB ?_; clear hA A hB B; try simp only [hz]) | (refine gG ?_ ?_ <;> (intro hz; have h := nm hz; try (exfalso; omega)) <;> (have hz := nz hz; try subst hz)) | (rw [if_pos (show _ ∧ _ from ⟨by omega, by omega⟩)]; refine sS ?_) | refine gT ?_ | (clear hN N))
      all_goals (first | exact retZ hQ Tryz.results32 (Desc.re [] rfl) | exact retZN hQ Tryz.results32 (Desc.re [] rfl))
  have hr : rightF ⟨x, y, z⟩ = true := by
    cases h : rightF ⟨x, y, z⟩
    · exact absurd (.inr (.inr h)) h2
    · rfl
  have h2 : ¬ (s < 1 ∨ 4611686018427387903 < s) := fun h => h2 (by rcases h with h | h <;> simp [h])
  obtain ⟨d, hd⟩ : ∃ d, Clk.at_ ⟨x, y, z⟩ o = d := ⟨_, rfl⟩
  rw [check_tail h1 h2 hr hd]
  rw [hr] at c1
  rw [hd] at hx
  have hdb := at_bd hr hd
  clear hx0
  refine Sp.of_bodyE Tryz.func32 rfl ?_
  intro Q hQ
  simp only [List.replicate, List.length_cons, List.length_nil, Tryz.ntmps32, Nat.reduceAdd, Nat.reduceSub, List.cons_append, List.nil_append, go_sem]
  have hz : True := trivial
  have hy := yieldedV_eq
  have hL := @hx
  repeat' (first | (refine WPV.seqK ?_; intro N hN) | refine gA ?_ | (refine gR (M := noM) ?_; intro N hN ops hy) | (refine gD (M := noM) ?_; intro N hN; have hy := yieldedV_eq) | (refine WPV.condK ?_; intro A hA B hB) | (refine here ?_; refine sS ?_) | refine Both.mk ?_ ?_ | ((with_reducible refine CallO.gd 57 ?_); refine CallO.frB [] Tryz.call57 (c1) ?_) | (refine hN _ ?_; try clear hN N; try clear hy ops) | (refine hA ?_; clear hA A hB B; try simp only [hz]) | (refine hB ?_; clear hA A hB B; try simp only [hz]) | (refine gG ?_ ?_ <;> (intro hz; have h := nm hz; try (exfalso; omega)) <;> (have hz := nz hz; try subst hz)) | (rw [if_pos (show _ ∧ _ from ⟨by omega, by omega⟩)]; refine sS ?_) | refine gT ?_ | (clear hN N))
  all_goals (try (first | exact retZ hQ Tryz.results32 (Desc.re [] rfl) | exact retZN hQ Tryz.results32 (Desc.re [] rfl)))
  have e1 : ¬ d ≠ s - 1 := by omega
  have e2 : ¬ 16 < w.length := by omega
  rw [if_neg e1, if_neg e2] at hQ
  clear hx c1
  refine WPV.loopW (α := Nat) (fun k => w.length - k) (fun k => ⟨[.any, .ptr 0 0, .any, .sc (.int .i64 ((k : Nat) : Int)), .any, .any, .any, .any, .any, .any, .any, .any, .any, .any, .any, .any, .any, .any, .any, .any, .any, .any, .any, .any, .any, .any, .any, .any, .any, .any, .any, .any, .any, .any, .any, .any, .any, .any, .any, .any, .any, .any, .any, .any, .any, .any, .any, .any, .any, .any, .any, .any, .any, .any, .any, .any, .any, .any, .any, .any, .any, .any, .any, .any, .any, .any, .any, .any, .any, .any, .any, .any, .any, .any, .any, .any, .any, .any, .any, .any, .any, .any, .any, .any, .any, .any, .any], [.cells [.sc (.int .i64 o), .sc (.int .i64 s), .sc (.int .i64 x), .sc (.int .i64 y), .sc (.int .i64 z), .sl 3 (wrl w)]]⟩) (fun k => k ≤ w.length ∧ w.any Wr.long = (w.drop k).any Wr.long) 0 Desc.weakA ⟨Nat.zero_le _, rfl⟩ (fun k hJ H => ?_)
  obtain ⟨hk0, hJ⟩ := hJ
  by_cases h : k < w.length
  · obtain ⟨a, hg⟩ : ∃ a, w[k] = a := ⟨_, rfl⟩
    have hget : w[k]? = some a := by rw [← hg]; exact List.getElem?_eq_getElem h
    rw [List.drop_eq_getElem_cons h, List.any_cons, hg] at hJ
    have li := long_iff a
    by_cases hb : a.long = true
    · have e : w.any Wr.long = true := by rw [hJ, hb]; rfl
      rw [if_pos e] at hQ
      have hb2 := li.1 hb
      clear H hg hJ li
      refine loopV ?_
      have hz : True := trivial
      have hy := yieldedV_eq
      have hL := @hget
      repeat' (first | (refine WPV.seqK ?_; intro N hN) | refine gA ?_ | (refine gR (M := noM) ?_; intro N hN ops hy) | (refine gD (M := noM) ?_; intro N hN; have hy := yieldedV_eq) | (refine WPV.condK ?_; intro A hA B hB) | (refine here ?_; refine sS ?_) | refine Both.mk ?_ ?_ | (refine hN _ ?_; try clear hN N; try clear hy ops) | (refine hA ?_; clear hA A hB B; try simp only [hz]) | (refine hB ?_; clear hA A hB B; try simp only [hz]) | (refine gG ?_ ?_ <;> (intro hz; have h := nm hz; try (exfalso; omega)) <;> (have hz := nz hz; try subst hz)) | (rw [if_pos (show _ ∧ _ from ⟨by omega, by omega⟩)]; refine sS ?_) | refine gT ?_ | (clear hN N))
      all_goals (first | exact retZ hQ Tryz.results32 (Desc.re [] rfl) | exact retZN hQ Tryz.results32 (Desc.re [] rfl))
    · have H' := H (k + 1) ⟨h, by rw [hJ]; simp [hb]⟩ (by omega)
      have hb2 : ¬ (64 < a.k.size ∨ 256 < a.v.size) := fun h => hb (li.2 h)
      clear H hg hJ li
      refine loopV ?_
      have hz : True := trivial
      have hy := yieldedV_eq
      have hL := @hget
      repeat' (first | (refine WPV.seqK ?_; intro N hN) | refine gA ?_ | (refine gR (M := noM) ?_; intro N hN ops hy) | (refine gD (M := noM) ?_; intro N hN; have hy := yieldedV_eq) | (refine WPV.condK ?_; intro A hA B hB) | (refine here ?_; refine sS ?_) | refine Both.mk ?_ ?_ | (refine hN _ ?_; try clear hN N; try clear hy ops) | (refine hA ?_; clear hA A hB B; try simp only [hz]) | (refine hB ?_; clear hA A hB B; try simp only [hz]) | (refine gG ?_ ?_ <;> (intro hz; have h := nm hz; try (exfalso; omega)) <;> (have hz := nz hz; try subst hz)) | (rw [if_pos (show _ ∧ _ from ⟨by omega, by omega⟩)]; refine sS ?_) | refine gT ?_ | (clear hN N))
      all_goals (exact rndZ (Desc.re [some 0] rfl) (H'))
  obtain rfl : k = w.length := by omega
  have e : ¬ w.any Wr.long = true := by rw [hJ]; simp
  rw [if_neg e] at hQ
  clear H hJ e
  refine loopV ?_
  have hz : True := trivial
  have hy := yieldedV_eq
  have hL := True.intro
  repeat' (first | (refine WPV.seqK ?_; intro N hN) | refine gA ?_ | (refine gR (M := noM) ?_; intro N hN ops hy) | (refine gD (M := noM) ?_; intro N hN; have hy := yieldedV_eq) | (refine WPV.condK ?_; intro A hA B hB) | (refine here ?_; refine sS ?_) | refine Both.mk ?_ ?_ | (refine hN _ ?_; try clear hN N; try clear hy ops) | (refine hA ?_; clear hA A hB B; try simp only [hz]) | (refine hB ?_; clear hA A hB B; try simp only [hz]) | (refine gG ?_ ?_ <;> (intro hz; have h := nm hz; try (exfalso; omega)) <;> (have hz := nz hz; try subst hz)) | (rw [if_pos (show _ ∧ _ from ⟨by omega, by omega⟩)]; refine sS ?_) | refine gT ?_ | (clear hN N))
  refine WPV.loopW (α := Nat) (fun k => w.length - k) (fun k => ⟨[.any, .ptr 0 0, .any, .any, .sc (.int .i64 ((k : Nat) : Int)), .any, .any, .any, .any, .any, .any, .any, .any, .any, .any, .any, .any, .any, .any, .any, .any, .any, .any, .any, .any, .any, .any, .any, .any, .any, .any, .any, .any, .any, .any, .any, .any, .any, .any, .any, .any, .any, .any, .any, .any, .any, .any, .any, .any, .any, .any, .any, .any, .any, .any, .any, .any, .any, .any, .any, .any, .any, .any, .any, .any, .any, .any, .any, .any, .any, .any, .any, .any, .any, .any, .any, .any, .any, .any, .any, .any, .any, .any, .any, .any, .any, .any], [.cells [.sc (.int .i64 o), .sc (.int .i64 s), .sc (.int .i64 x), .sc (.int .i64 y), .sc (.int .i64 z), .sl 3 (wrl w)]]⟩) (fun k => k ≤ w.length ∧ w.any Wr.odd = (w.drop k).any Wr.odd) 0 Desc.weakA ⟨Nat.zero_le _, rfl⟩ (fun k hJ H => ?_)
  obtain ⟨hk0, hJ⟩ := hJ
  by_cases h : k < w.length
  · obtain ⟨a, hg⟩ : ∃ a, w[k] = a := ⟨_, rfl⟩
    have hget : w[k]? = some a := by rw [← hg]; exact List.getElem?_eq_getElem h
    rw [List.drop_eq_getElem_cons h, List.any_cons, hg] at hJ
    obtain ⟨ak, av, ag⟩ := a
    have od := odd_e av
    by_cases hb : Wr.odd ⟨ak, av, ag⟩ = true
    · have e : w.any Wr.odd = true := by rw [hJ, hb]; rfl
      rw [if_pos e] at hQ
      obtain ⟨rfl, hv⟩ : ag = true ∧ decide (av ≠ ByteArray.empty) = true := by simpa [Wr.odd] using hb
      rw [hv] at od
      clear H hg hJ hb e
      refine loopV ?_
      have hz : True := trivial
      have hy := yieldedV_eq
      have hL := And.intro @hget (@od)
      repeat' (first | (refine WPV.seqK ?_; intro N hN) | refine gA ?_ | (refine gR (M := noM) ?_; intro N hN ops hy) | (refine gD (M := noM) ?_; intro N hN; have hy := yieldedV_eq) | (refine WPV.condK ?_; intro A hA B hB) | (refine here ?_; refine sS ?_) | refine Both.mk ?_ ?_ | (refine hN _ ?_; try clear hN N; try clear hy ops) | (refine hA ?_; clear hA A hB B; try simp only [hz]) | (refine hB ?_; clear hA A hB B; try simp only [hz]) | (refine gG ?_ ?_ <;> (intro hz; have h := nm hz; try (exfalso; omega)) <;> (have hz := nz hz; try subst hz)) | (rw [if_pos (show _ ∧ _ from ⟨by omega, by omega⟩)]; refine sS ?_) | refine gT ?_ | (clear hN N))
      all_goals (first | exact retZ hQ Tryz.results32 (Desc.re [] rfl) | exact retZN hQ Tryz.results32 (Desc.re [] rfl))
    · have H' := H (k + 1) ⟨h, by rw [hJ]; simp [hb]⟩ (by omega)
      clear H hg hJ
      cases ag with
      | false =>
        refine loopV ?_
        have hz : True := trivial
        have hy := yieldedV_eq
        have hL := @hget
        repeat' (first | (refine WPV.seqK ?_; intro N hN) | refine gA ?_ | (refine gR (M := noM) ?_; intro N hN ops hy) | (refine gD (M := noM) ?_; intro N hN; have hy := yieldedV_eq) | (refine WPV.condK ?_; intro A hA B hB) | (refine here ?_; refine sS ?_) | refine Both.mk ?_ ?_ | (refine hN _ ?_; try clear hN N; try clear hy ops) | (refine hA ?_; clear hA A hB B; try simp only [hz]) | (refine hB ?_; clear hA A hB B; try simp only [hz]) | (refine gG ?_ ?_ <;> (intro hz; have h := nm hz; try (exfalso; omega)) <;> (have hz := nz hz; try subst hz)) | (rw [if_pos (show _ ∧ _ from ⟨by omega, by omega⟩)]; refine sS ?_) | refine gT ?_ | (clear hN N))
        all_goals (exact rndZ (Desc.re [some 0] rfl) (H'))
      | true =>
        have hv : decide (av ≠ ByteArray.empty) = false := by simpa [Wr.odd] using hb
        rw [hv] at od
        refine loopV ?_
        have hz : True := trivial
        have hy := yieldedV_eq
        have hL := And.intro @hget (@od)
        repeat' (first | (refine WPV.seqK ?_; intro N hN) | refine gA ?_ | (refine gR (M := noM) ?_; intro N hN ops hy) | (refine gD (M := noM) ?_; intro N hN; have hy := yieldedV_eq) | (refine WPV.condK ?_; intro A hA B hB) | (refine here ?_; refine sS ?_) | refine Both.mk ?_ ?_ | (refine hN _ ?_; try clear hN N; try clear hy ops) | (refine hA ?_; clear hA A hB B; try simp only [hz]) | (refine hB ?_; clear hA A hB B; try simp only [hz]) | (refine gG ?_ ?_ <;> (intro hz; have h := nm hz; try (exfalso; omega)) <;> (have hz := nz hz; try subst hz)) | (rw [if_pos (show _ ∧ _ from ⟨by omega, by omega⟩)]; refine sS ?_) | refine gT ?_ | (clear hN N))
        all_goals (exact rndZ (Desc.re [some 0] rfl) (H'))
  obtain rfl : k = w.length := by omega
  have e : ¬ w.any Wr.odd = true := by rw [hJ]; simp
  rw [if_neg e] at hQ
  clear H hJ e
  refine loopV ?_
  have hz : True := trivial
  have hy := yieldedV_eq
  have hL := True.intro
  repeat' (first | (refine WPV.seqK ?_; intro N hN) | refine gA ?_ | (refine gR (M := noM) ?_; intro N hN ops hy) | (refine gD (M := noM) ?_; intro N hN; have hy := yieldedV_eq) | (refine WPV.condK ?_; intro A hA B hB) | (refine here ?_; refine sS ?_) | refine Both.mk ?_ ?_ | (refine hN _ ?_; try clear hN N; try clear hy ops) | (refine hA ?_; clear hA A hB B; try simp only [hz]) | (refine hB ?_; clear hA A hB B; try simp only [hz]) | (refine gG ?_ ?_ <;> (intro hz; have h := nm hz; try (exfalso; omega)) <;> (have hz := nz hz; try subst hz)) | (rw [if_pos (show _ ∧ _ from ⟨by omega, by omega⟩)]; refine sS ?_) | refine gT ?_ | (clear hN N))
  all_goals (first | exact retZ hQ Tryz.results32 (Desc.re [] rfl) | exact retZN hQ Tryz.results32 (Desc.re [] rfl))
end Go.Proofs.YtgfnpcmehnjopaaGreatDoor
end
