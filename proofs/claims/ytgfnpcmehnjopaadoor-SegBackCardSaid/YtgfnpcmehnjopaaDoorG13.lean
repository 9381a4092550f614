/- Parts of the proofs, joined: TxnG, TxnE, VsX, CrcV, FrmF, FrmG, SegF, FrmP, VsUJ, SegP. -/
import Derived.Test.YtgfnpcmehnjopaaDoorG2
import Derived.Test.YtgfnpcmehnjopaaDoorG9
import Derived.Test.YtgfnpcmehnjopaaDoorG11
import Derived.Test.YtgfnpcmehnjopaaDoorG12
section
namespace Go.Proofs.YtgfnpcmehnjopaaDoor
section
open Go Go.RowKit
set_option linter.unusedVariables false
set_option linter.unusedSimpArgs false
theorem drop_app {α : Type} {b l r : List α} {u : Nat} (h : b.drop u = l ++ r) : b.drop (u + l.length) = r := by
  rw [← List.drop_drop, h, List.drop_left]
theorem num_at {b r : List UInt8} {u n most : Nat} {above : Int} (h : b.drop u = vput n ++ r) (hn : n ≤ most) (hm : most < 18446744073709551616) : numG b u 0 most above = (n, u + (vput n).length, 0) ∧ b.drop (u + (vput n).length) = r := by
  refine ⟨?_, drop_app h⟩
  unfold numG
  rw [if_neg (by simp), h, tk_nat n (by omega) r]
  have e : (UInt64.ofNat n).toNat = n := by rw [UInt64.toNat_ofNat']; omega
  simp only [e]
  rw [if_neg (by omega)]
theorem wtakeF_of {α : Type} {q : α → List UInt8 → Tk × α} {b : List UInt8} {used : Nat} {d d' : α} {k : ByteArray} {z n u : Nat} {er e : Int} (hd : q d (b.drop used) = ((k, (z : Int), er), d')) (hn : numG b (used + z) er 257 4 = (n, u, e)) :
    wtakeF q b used d = if e ≠ 0 ∨ n = 0 then ((⟨k, ⟨#[]⟩, true⟩, u, e), d') else if b.length < u + (n - 1) then ((⟨k, ⟨#[]⟩, false⟩, u, 2), d') else ((⟨k, subT b u (n - 1), false⟩, u + (n - 1), 0), d') := by
  unfold wtakeF
  simp only [hd, Int.toNat_natCast, hn]
theorem wtake_at {b r : List UInt8} {u : Nat} {d : Di} (ok : d.Ok) {a : Wr} (hk : a.k.size ≤ 64) (hv : a.v.size ≤ 256) (hg : a.g = true → a.v = ByteArray.empty) (h : b.drop u = (d.put a.k).1.1 ++ a.val ++ r) :
    wtakeF dtF b u d = ((a, u + ((d.put a.k).1.1 ++ a.val).length, 0), (d.put a.k).2) ∧ b.drop (u + ((d.put a.k).1.1 ++ a.val).length) = r := by
  refine ⟨?_, drop_app h⟩
  have hp : (d.put a.k).1.2 = 0 := by
    unfold Di.put
    rw [if_neg (by omega)]
    split <;> rfl
  rw [List.append_assoc] at h
  have hb := d.back ok a.k (a.val ++ r) hp
  rw [← h] at hb
  have h2 := drop_app h
  generalize (d.put a.k).1.1 = p at *
  generalize (d.put a.k).2 = d' at *
  obtain ⟨k, v, g⟩ := a
  dsimp only [Int.toNat_natCast] at *
  cases g with
  | true =>
    have hv0 : v = ByteArray.empty := hg rfl
    subst hv0
    have hz := vput_zero
    have e1 : Wr.val ⟨k, ByteArray.empty, true⟩ = vput 0 := by rw [hz]; rfl
    rw [e1] at h2 ⊢
    obtain ⟨n1, n2⟩ := num_at (most := 257) (above := 4) h2 (by omega) (by omega)
    rw [wtakeF_of (q := dtF) hb n1, if_pos (.inr rfl)]
    simp only [List.length_append, Nat.add_assoc]
    rfl
  | false =>
    have e1 : Wr.val ⟨k, v, false⟩ = vput (v.size + 1) ++ v.toList := rfl
    rw [e1] at h2 ⊢
    rw [List.append_assoc] at h2
    obtain ⟨n1, n2⟩ := num_at (most := 257) (above := 4) h2 (by omega) (by omega)
    rw [wtakeF_of (q := dtF) hb n1]
    have hs := size_toList v
    have hl : v.size + (u + p.length + (vput (v.size + 1)).length) ≤ b.length := by
      have := congrArg List.length n2
      rw [List.length_drop, List.length_append, hs] at this
      by_cases h0 : u + p.length + (vput (v.size + 1)).length ≤ b.length
      · omega
      · have := congrArg List.length h2
        rw [List.length_drop, List.length_append, List.length_append, hs] at this
        have := List.length_pos_iff.2 (vput_ne (v.size + 1))
        omega
    rw [if_neg (by simp), if_neg (by omega)]
    have e2 : subT b (u + p.length + (vput (v.size + 1)).length) (v.size + 1 - 1) = v := by
      unfold subT
      rw [n2, Nat.add_sub_cancel, ← hs, List.take_left, ByteArray.toList_eq]
    rw [e2]
    simp only [List.length_append, hs, Nat.add_assoc]
    rfl
theorem wstake_at {b r : List UInt8} : ∀ (w : List Wr) {u : Nat} {d : Di}, d.Ok → (∀ a ∈ w, a.k.size ≤ 64 ∧ a.v.size ≤ 256 ∧ (a.g = true → a.v = ByteArray.empty)) → b.drop u = (wputF dpF d w).1 ++ r →
    wstakeF dtF b w.length u 0 d = ((w, u + (wputF dpF d w).1.length, 0), (wputF dpF d w).2)
  | [], u, d, _, _, h => by simp [wstakeF, wputF]
  | a :: w, u, d, ok, ha, h => by
    obtain ⟨h1, h2, h3⟩ := ha a (by simp)
    have hw : wputF dpF d (a :: w) = ((d.put a.k).1.1 ++ a.val ++ (wputF dpF (d.put a.k).2 w).1, (wputF dpF (d.put a.k).2 w).2) := rfl
    rw [hw] at h ⊢
    dsimp only at h ⊢
    rw [List.append_assoc] at h
    obtain ⟨g1, g2⟩ := wtake_at ok h1 h2 h3 h
    have ih := wstake_at w (ok.put a.k) (fun x hx => ha x (by simp [hx])) g2
    show (if (0 : Int) ≠ 0 then _ else _) = _
    rw [if_neg (by simp), g1]
    dsimp only
    rw [ih]
    simp only [List.length_append, Nat.add_assoc]
theorem take_put_t {x : Cod Di} (ok : x.d.Ok) (hr : rightF x.c = true) {t : Tx} (hc : checkF t = 0) (rest : List UInt8) :
    ttakeF dtF x ((tputF dpF x t).1.1 ++ rest) = ((t, (tputF dpF x t).1.1.length, 0), (tputF dpF x t).2) := by
  obtain ⟨⟨o1, o2⟩, ⟨s1, s2⟩, hrt, hw, ha, _⟩ := check_ok hc
  have e : tputF dpF x t = ((t.headF x.c ++ (wputF dpF x.d t.w).1, 0), ⟨t.c, (wputF dpF x.d t.w).2⟩) := by unfold tputF; rw [if_neg (by rw [hc]; simp)]
  rw [e]
  dsimp only
  generalize hb : t.headF x.c ++ (wputF dpF x.d t.w).1 ++ rest = b
  have h0 : b.drop 0 = vput t.o.toNat ++ (vput t.s.toNat ++ ((cputF x.c t.c).1 ++ (vput t.w.length ++ ((wputF dpF x.d t.w).1 ++ rest)))) := by
    rw [List.drop_zero, ← hb]; unfold Tx.headF; simp only [List.append_assoc]
  obtain ⟨n1, g1⟩ := num_at (most := 4611686018427387903) (above := 1) h0 (by omega) (by omega)
  obtain ⟨n2, g2⟩ := num_at (most := 4611686018427387903) (above := 1) g1 (by omega) (by omega)
  have n3 := take_put x.c t.c (vput t.w.length ++ ((wputF dpF x.d t.w).1 ++ rest)) hr hrt
  rw [← g2] at n3
  have g3 := drop_app g2
  obtain ⟨n4, g4⟩ := num_at (most := 16) (above := 4) g3 hw (by omega)
  have n5 := wstake_at t.w ok ha g4
  unfold ttakeF
  simp only [n1, n2, n3, n4, n5, if_true]
  have et : (⟨((t.o.toNat : Nat) : Int), ((t.s.toNat : Nat) : Int), t.c, t.w⟩ : Tx) = t := by
    obtain ⟨o, s, c, w⟩ := t
    dsimp only at o1 s1 ⊢
    congr 1 <;> omega
  rw [et, hc, if_neg (by simp)]
  unfold Tx.headF
  simp only [List.length_append, Nat.zero_add, Nat.add_assoc]
theorem wput_ok : ∀ (w : List Wr) {d : Di}, d.Ok → (wputF dpF d w).2.Ok
  | [], d, h => h
  | a :: w, d, h => wput_ok w (h.put a.k)
end
section
open Go Go.RowKit
set_option linter.unusedVariables false
set_option linter.unusedSimpArgs false
theorem wstakeF_err {α : Type} {q : α → List UInt8 → Tk × α} {b : List UInt8} {e : Int} (he : e ≠ 0) : ∀ (n u : Nat) (d : α), wstakeF q b n u e d = (([], u, e), d)
  | 0, _, _ => rfl
  | n + 1, u, d => by
    show (if e ≠ 0 then _ else _) = _
    rw [if_pos he]
theorem wstakeF_one {α : Type} {q : α → List UInt8 → Tk × α} {b : List UInt8} {n u u' : Nat} {e : Int} {d d' : α} {a : Wr} (h : wtakeF q b u d = ((a, u', e), d')) :
    wstakeF q b (n + 1) u 0 d = ((a :: (wstakeF q b n u' e d').1.1, (wstakeF q b n u' e d').1.2.1, (wstakeF q b n u' e d').1.2.2), (wstakeF q b n u' e d').2) := by
  show (if (0 : Int) ≠ 0 then _ else _) = _
  rw [if_neg (by simp)]
  simp only [h]
theorem dtake_nat (d : Di) (b : List UInt8) : ∃ (k : ByteArray) (z : Nat) (er : Int) (d' : Di), d.take b = ((k, (z : Int), er), d') ∧ z ≤ b.length := by
  obtain ⟨h1, h2⟩ := dtake_sz d b
  exact ⟨(d.take b).1.1, (d.take b).1.2.1.toNat, (d.take b).1.2.2, (d.take b).2, by rw [Int.toNat_of_nonneg h1], by omega⟩
def seg (b : List UInt8) (u v : Nat) : List UInt8 := (b.drop u).take (v - u)
theorem seg_app {b : List UInt8} {u v w : Nat} (h1 : u ≤ v) (h2 : v ≤ w) : seg b u v ++ seg b v w = seg b u w := by
  unfold seg
  rw [show w - u = (v - u) + (w - v) by omega, List.take_add, List.drop_drop, show u + (v - u) = v by omega]
theorem num_canon {b : List UInt8} {u most n v : Nat} {above : Int} (ha : above ≠ 0) (hu : u ≤ b.length) (h : numG b u 0 most above = (n, v, 0)) : vput n = seg b u v ∧ u < v ∧ v ≤ b.length ∧ n ≤ most := by
  unfold numG at h
  rw [if_neg (by simp)] at h
  simp only [Prod.mk.injEq] at h
  obtain ⟨rfl, rfl, h3⟩ := h
  split at h3
  · exact absurd h3 ha
  · obtain ⟨k1, k2, k3⟩ := tk_ok h3
    rw [List.length_drop] at k2
    refine ⟨?_, by omega, by omega, by omega⟩
    rw [k3]; unfold seg
    rw [Nat.add_sub_cancel_left]
theorem di_canon {d : Di} (ok : d.Ok) {b : List UInt8} {k : ByteArray} {z : Nat} {d' : Di} (h : d.take b = ((k, (z : Int), 0), d')) : d.put k = ((b.take z, 0), d') ∧ 1 ≤ z ∧ z ≤ b.length := by
  have h8 := ok.len
  unfold Di.take at h
  rcases hb : dkOf b with e | ⟨p, u⟩ | ⟨s, u⟩
  · rw [hb] at h
    simp only [Prod.mk.injEq] at h
    exact absurd h.1.2.2 (dkOf_err hb)
  · rw [hb] at h
    dsimp only at h
    have hp := dkOf_place hb
    have hbp : (tk b).2.2 = 0 ∧ (tk b).1.toNat = p ∧ (tk b).2.1 = u := by
      unfold dkOf at hb
      split at hb <;> try cases hb
      split at hb <;> try cases hb
      · rename_i h1 _; exact ⟨Decidable.not_not.1 h1, rfl, rfl⟩
      split at hb <;> try cases hb
      split at hb <;> try cases hb
      split at hb <;> cases hb
    obtain ⟨b1, b2, b3⟩ := hbp
    obtain ⟨k1, k2, k3⟩ := tk_ok b1
    split at h
    · simp only [Prod.mk.injEq] at h; exact absurd h.1.2.2 (by decide)
    · rename_i hle
      simp only [Prod.mk.injEq] at h
      obtain ⟨⟨rfl, h2, _⟩, rfl⟩ := h
      have hz : z = u := by omega
      subst hz
      have hg : d.ks[p - 1]? = some (d.ks.getD (p - 1) ⟨#[]⟩) := by rw [List.getD_eq_getElem?_getD, List.getElem?_eq_getElem (by omega)]; rfl
      have hat := ok.at_get hg
      have hsz := ok.sz _ (List.mem_iff_getElem?.2 ⟨_, hg⟩)
      unfold Di.put
      rw [if_neg (by omega), if_pos (by omega), hat]
      refine ⟨?_, by omega, by omega⟩
      rw [show ((((p - 1 : Nat) : Int)) + 1).toNat = p by omega, ← b2, k3, b3]
  · rw [hb] at h
    dsimp only at h
    split at h
    · simp only [Prod.mk.injEq] at h; exact absurd h.1.2.2 (by decide)
    · rename_i hat
      simp only [Prod.mk.injEq] at h
      obtain ⟨⟨rfl, h2, _⟩, rfl⟩ := h
      have hz : z = u := by omega
      subst hz
      have hs := dkOf_text hb
      unfold dkOf at hb
      split at hb <;> try cases hb
      split at hb <;> try cases hb
      split at hb <;> try cases hb
      split at hb <;> try cases hb
      split at hb <;> try cases hb
      rename_i g1 g2 g3 g4 g5
      obtain ⟨k1, k2, k3⟩ := tk_ok (Decidable.not_not.1 g1)
      obtain ⟨m1, m2, m3⟩ := tk_ok (Decidable.not_not.1 g3)
      rw [Decidable.not_not.1 g2] at k3
      generalize (tk b).2.1 = z at *
      rw [List.length_drop] at m2
      generalize (tk (b.drop z)).2.1 = y at *
      generalize (tk (b.drop z)).1.toNat = l at *
      have hsz : (dkText b (z + y) l).size = l := by
        unfold dkText
        show ((b.drop (z + y)).take l).toArray.size = l
        simp; omega
      have htl : (dkText b (z + y) l).toList = (b.drop (z + y)).take l := by
        rw [ByteArray.toList_eq]; rfl
      unfold Di.put
      rw [if_neg (by omega), if_neg hat, hsz, htl, k3, m3]
      refine ⟨?_, by omega, by omega⟩
      rw [← List.take_add, ← List.drop_drop, show z + y + l = z + y + l by rfl]
      rw [List.take_add (i := z + y), List.drop_drop]
theorem wtake_canon {b : List UInt8} {u v : Nat} {d d' : Di} (ok : d.Ok) {a : Wr} (hu : u ≤ b.length) (h : wtakeF dtF b u d = ((a, v, 0), d')) : (d.put a.k).1.1 ++ a.val = seg b u v ∧ (d.put a.k).2 = d' ∧ u ≤ v ∧ v ≤ b.length := by
  obtain ⟨k, z, er, d1, hd, hz⟩ := dtake_nat d (b.drop u)
  rw [List.length_drop] at hz
  obtain ⟨n, w, e, hn⟩ : ∃ n w e, numG b (u + z) er 257 4 = (n, w, e) := ⟨_, _, _, rfl⟩
  have hw := wtakeF_of (q := dtF) hd hn
  rw [h] at hw
  have he0 : e = 0 := by
    split at hw
    · rename_i hc; simp only [Prod.mk.injEq] at hw; exact hw.1.2.2.symm
    · rename_i hc; simp only [not_or, Decidable.not_not] at hc; exact hc.1
  subst he0
  obtain ⟨_, _, h3, _, _⟩ := numG_ok (by omega) (by decide) hn
  obtain ⟨rfl, _⟩ := h3 rfl
  obtain ⟨c1, c2, c3⟩ := di_canon ok hd
  obtain ⟨n1, n2, n3, n4⟩ := num_canon (by decide) (by omega) hn
  rw [List.length_drop] at c3
  have hseg : (b.drop u).take z = seg b u (u + z) := by unfold seg; rw [Nat.add_sub_cancel_left]
  split at hw
  · rename_i hc
    have h0 : n = 0 := by
      rcases hc with hc | hc
      · exact absurd rfl hc
      · exact hc
    subst h0
    simp only [Prod.mk.injEq] at hw
    obtain ⟨⟨rfl, rfl, _⟩, rfl⟩ := hw
    rw [c1]
    refine ⟨?_, rfl, by omega, by omega⟩
    show (b.drop u).take z ++ [0] = _
    rw [← vput_zero, n1, hseg, seg_app (by omega) (by omega)]
  · rename_i hc
    have h0 : n ≠ 0 := fun h => hc (.inr h)
    split at hw
    · simp only [Prod.mk.injEq] at hw; exact absurd hw.1.2.2 (by decide)
    · rename_i hle
      simp only [Prod.mk.injEq] at hw
      obtain ⟨⟨rfl, rfl, _⟩, rfl⟩ := hw
      rw [c1]
      refine ⟨?_, rfl, by omega, by omega⟩
      have hsz : (subT b w (n - 1)).size = n - 1 := by
        show ((b.drop w).take (n - 1)).toArray.size = n - 1
        simp; omega
      have htl : (subT b w (n - 1)).toList = seg b w (w + (n - 1)) := by
        rw [ByteArray.toList_eq]; unfold seg; rw [Nat.add_sub_cancel_left]; rfl
      show (b.drop u).take z ++ (vput ((subT b w (n - 1)).size + 1) ++ (subT b w (n - 1)).toList) = _
      rw [hsz, htl, show n - 1 + 1 = n by omega, n1, hseg, ← List.append_assoc, seg_app (by omega) (by omega), seg_app (by omega) (by omega)]
theorem ws_canon {b : List UInt8} : ∀ (N : Nat) {u v : Nat} {d d' : Di} {ws : List Wr}, d.Ok → u ≤ b.length → wstakeF dtF b N u 0 d = ((ws, v, 0), d') → ws.length = N ∧ wputF dpF d ws = (seg b u v, d') ∧ u ≤ v ∧ v ≤ b.length ∧ d'.Ok
  | 0, u, v, d, d', ws, ok, hu, h => by
    simp only [wstakeF, Prod.mk.injEq] at h
    obtain ⟨⟨rfl, rfl, _⟩, rfl⟩ := h
    exact ⟨rfl, by simp [wputF, seg], by omega, by omega, ok⟩
  | N + 1, u, v, d, d', ws, ok, hu, h => by
    obtain ⟨a, u', e, d1, hw⟩ : ∃ a u' e d1, wtakeF dtF b u d = ((a, u', e), d1) := ⟨_, _, _, _, rfl⟩
    rw [wstakeF_one hw] at h
    by_cases he : e = 0
    · subst he
      obtain ⟨c1, c2, c3, c4⟩ := wtake_canon ok hu hw
      have ok1 : d1.Ok := by rw [← c2]; exact ok.put a.k
      obtain ⟨ws', v', e', d2, hs⟩ : ∃ ws' v' e' d2, wstakeF dtF b N u' 0 d1 = ((ws', v', e'), d2) := ⟨_, _, _, _, rfl⟩
      rw [hs] at h
      simp only [Prod.mk.injEq] at h
      obtain ⟨⟨rfl, rfl, rfl⟩, rfl⟩ := h
      obtain ⟨i1, i2, i3, i4, i5⟩ := ws_canon N ok1 c4 hs
      refine ⟨by simp [i1], ?_, by omega, i4, i5⟩
      rw [wputF_cons]
      dsimp only [dpF]
      rw [c2, c1]
      rw [i2]
      dsimp only
      rw [seg_app c3 i3]
    · rw [wstakeF_err he] at h
      simp only [Prod.mk.injEq] at h
      exact absurd h.1.2.2 he
theorem put_take_t {x : Cod Di} (ok : x.d.Ok) (hr : rightF x.c = true) {b : List UInt8} {t : Tx} {n : Nat} {x' : Cod Di} (h : ttakeF dtF x b = ((t, n, 0), x')) : tputF dpF x t = ((b.take n, 0), x') ∧ 1 ≤ n ∧ n ≤ b.length ∧ checkF t = 0 ∧ x'.d.Ok ∧ rightF x'.c = true := by
  obtain ⟨o, u1, e1, h1⟩ : ∃ o u e, numG b 0 0 4611686018427387903 1 = (o, u, e) := ⟨_, _, _, rfl⟩
  obtain ⟨s, u2, e2, h2⟩ : ∃ o u e, numG b u1 e1 4611686018427387903 1 = (o, u, e) := ⟨_, _, _, rfl⟩
  obtain ⟨c, m, e3, h3⟩ : ∃ c m e, (if e2 = 0 then ctakeF x.c (b.drop u2) else (⟨0, 0, 0⟩, 0, e2)) = (c, m, e) := ⟨_, _, _, rfl⟩
  obtain ⟨many, u4, e4, h4⟩ : ∃ o u e, numG b (u2 + m) e3 16 4 = (o, u, e) := ⟨_, _, _, rfl⟩
  obtain ⟨ws, u5, e5, d5, h5⟩ : ∃ ws u e d, wstakeF dtF b many u4 e4 x.d = ((ws, u, e), d) := ⟨_, _, _, _, rfl⟩
  have hh : ttakeF dtF x b = if (if e5 = 0 then checkF ⟨o, s, c, ws⟩ else e5) ≠ 0 then ((Tx.zero, 0, if e5 = 0 then checkF ⟨o, s, c, ws⟩ else e5), x) else ((⟨o, s, c, ws⟩, u5, 0), ⟨c, d5⟩) := by
    unfold ttakeF
    simp only [h1, h2, h3, h4, h5]
  rw [h] at hh
  have e50 : e5 = 0 := by
    by_cases h0 : e5 = 0
    · exact h0
    · rw [if_pos (by rw [if_neg h0]; exact h0), if_neg h0] at hh
      simp only [Prod.mk.injEq] at hh
      exact absurd hh.1.2.2.symm h0
  subst e50
  rw [if_pos rfl] at hh
  have hc : checkF ⟨o, s, c, ws⟩ = 0 := by
    by_cases h0 : checkF ⟨o, s, c, ws⟩ = 0
    · exact h0
    · rw [if_pos h0] at hh
      simp only [Prod.mk.injEq] at hh
      exact absurd hh.1.2.2.symm h0
  rw [if_neg (by rw [hc]; simp)] at hh
  simp only [Prod.mk.injEq, and_true] at hh
  obtain ⟨⟨rfl, rfl⟩, rfl⟩ := hh
  have e40 : e4 = 0 := by
    by_cases h0 : e4 = 0
    · exact h0
    · rw [wstakeF_err h0] at h5
      simp only [Prod.mk.injEq] at h5
      exact h5.1.2.2
  subst e40
  obtain ⟨a1, a2, a3, _, _⟩ := numG_ok (Nat.zero_le _) (by decide) h1
  obtain ⟨b1, b2, b3, _, _⟩ := numG_ok a2 (by decide) h2
  have hm : u2 + m ≤ b.length := by
    split at h3
    · have := ctake_le x.c (b.drop u2)
      rw [h3, List.length_drop] at this
      dsimp only at this; omega
    · simp only [Prod.mk.injEq] at h3; omega
  obtain ⟨d1, d2, d3, _, _⟩ := numG_ok hm (by decide) h4
  obtain ⟨rfl, _⟩ := d3 rfl
  have e20 : e2 = 0 := by
    by_cases h0 : e2 = 0
    · exact h0
    · rw [if_neg h0] at h3
      simp only [Prod.mk.injEq] at h3
      exact h3.2.2
  subst e20
  obtain ⟨rfl, _⟩ := b3 rfl
  rw [if_pos rfl] at h3
  obtain ⟨p1, p2, p3, p4⟩ := num_canon (by decide) (Nat.zero_le _) h1
  obtain ⟨q1, q2, q3, q4⟩ := num_canon (by decide) a2 h2
  obtain ⟨r1, r2, r3, r4⟩ := num_canon (by decide) hm h4
  obtain ⟨i1, i2, i3, i4, i5⟩ := ws_canon many ok d2 h5
  have hct := ctake_ok (p := x.c) (s := b.drop u2) (by rw [h3])
  rw [h3] at hct
  dsimp only at hct
  obtain ⟨t1, t2, t3, t4⟩ := hct
  refine ⟨?_, by omega, i4, hc, i5, t1⟩
  unfold tputF
  rw [if_neg (by rw [hc]; simp)]
  dsimp only
  rw [i2]
  unfold Tx.headF
  dsimp only
  rw [Int.toNat_natCast, Int.toNat_natCast, t2, i1, p1, q1, r1]
  dsimp only
  have hseg : (b.drop u2).take m = seg b u2 (u2 + m) := by unfold seg; rw [Nat.add_sub_cancel_left]
  rw [hseg, seg_app (by omega) (by omega), seg_app (by omega) (by omega), seg_app (by omega) (by omega), seg_app (by omega) (by omega)]
  unfold seg
  rw [List.drop_zero, Nat.sub_zero]
end
end Go.Proofs.YtgfnpcmehnjopaaDoor
end
section
namespace Go.Proofs.YtgfnpcmehnjopaaDoor
open Go Go.RowKit
set_option linter.unusedVariables false
set_option linter.unusedSimpArgs false
variable {K : Nat → Obj → Prop}
def Tx.d (t : Tx) : List D := [.sc (.int .i64 t.o), .sc (.int .i64 t.s), .sc (.int .i64 t.c.x), .sc (.int .i64 t.c.y), .sc (.int .i64 t.c.z), .sl 3 (wrl t.w)]
def txs (l : List Tx) : List (List D) := l.map Tx.d
theorem txs_len (l : List Tx) : (txs l).length = l.length := by simp [txs]
theorem txs_get (l : List Tx) (i : Nat) : (txs l)[i]? = (l[i]?).map Tx.d := by simp [txs]
theorem txs_app (l m : List Tx) : txs (l ++ m) = txs l ++ txs m := by simp [txs]
theorem txs_one (a : Tx) : txs [a] = [a.d] := rfl
attribute [go_sem] txs_len txs_get Tx.d
theorem cput_e {x y : Cod Di} {t : Tx} {b : List UInt8} {e : Int} (h : tputF dpF x t = ((b, e), y)) (ok : x.d.Ok) (hl : t.w.length ≤ 9223372036854775807) : Sp Tryd.prog K 67 [.ptr 0 0, txV t] x.inn fun u hh => u = .tup [.sl 1 (bs b), .sc (.int .i64 e)] ∧ hh = y.out := by
  have := cput_x (K := K) x t ok hl
  rwa [h] at this
theorem ctake_e {x y : Cod Di} {t : Tx} {b : List UInt8} {n : Nat} {e : Int} (h : ttakeF dtF x b = ((t, n, e), y)) (ok : x.d.Ok) (hl : b.length ≤ 1000000) : Sp Tryd.prog K 70 [.ptr 0 0, .sl 1 (bs b)] x.inn fun u hh => u = ttV (t, n, e) ∧ hh = y.tout := by
  have := ctake_x (K := K) x b ok hl
  rwa [h] at this
theorem tput_ok {x : Cod Di} (ok : x.d.Ok) (t : Tx) : (tputF dpF x t).2.d.Ok := by
  unfold tputF
  split
  · exact ok
  · exact wput_ok t.w ok
theorem tput_r {x : Cod Di} (hr : rightF x.c = true) (t : Tx) : rightF (tputF dpF x t).2.c = true := by
  unfold tputF
  split
  · exact hr
  · rename_i h; exact (check_ok (Decidable.not_not.1 h)).2.2.1
theorem wput_len : ∀ (w : List Wr) (d : Di), d.Ok → (∀ a ∈ w, a.v.size ≤ 256) → (wputF dpF d w).1.length ≤ 1000 * w.length
  | [], d, _, _ => by simp [wputF]
  | a :: w, d, ok, h => by
    have ih := wput_len w (d.put a.k).2 (ok.put a.k) (fun x hx => h x (by simp [hx]))
    have l1 := put_len ok a.k
    have hv := h a (by simp)
    have l2 : a.val.length ≤ 300 := by
      unfold Wr.val
      split
      · simp
      · have := vput_len (n := a.v.size + 1) (by omega)
        simp only [List.length_append, size_toList]; omega
    rw [wputF_cons]
    dsimp only [dpF]
    simp only [List.length_append, List.length_cons]; omega
theorem ite_err {α : Type} {E e : Int} {x y : α} {t : Tx} {n : Nat} (h : (if E ≠ 0 then ((Tx.zero, 0, E), x) else ((t, n, 0), y)).1.2.2 = e) (he : e ≠ 0) : (if E ≠ 0 then ((Tx.zero, 0, E), x) else ((t, n, 0), y)) = ((Tx.zero, 0, e), x) := by
  by_cases hE : E ≠ 0
  · rw [if_pos hE] at h ⊢
    dsimp only at h
    rw [h]
  · rw [if_neg hE] at h
    exact absurd h.symm he
theorem ttake_err {x : Cod Di} {b : List UInt8} {e : Int} (h : (ttakeF dtF x b).1.2.2 = e) (he : e ≠ 0) : ttakeF dtF x b = ((Tx.zero, 0, e), x) := ite_err h he
theorem r_new : rightF Cod.new.c = true := by decide
theorem ttake_w {x x' : Cod Di} {b : List UInt8} {t : Tx} {n : Nat} {e : Int} (ok : x.d.Ok) (hr : rightF x.c = true) (h : ttakeF dtF x b = ((t, n, e), x')) : t.w.length ≤ 16 := by
  by_cases he : e = 0
  · subst he
    exact (check_ok (put_take_t ok hr h).2.2.2.1).2.2.2.1
  · have := ttake_err (x := x) (b := b) (e := e) (by rw [h]) he
    rw [h] at this
    simp only [Prod.mk.injEq] at this
    rw [this.1.1]; exact Nat.zero_le _
theorem tput_two {x : Cod Di} (ok : x.d.Ok) (hr : rightF x.c = true) (t : Tx) :
    (checkF t ≠ 0 ∧ tputF dpF x t = (([], checkF t), x)) ∨ (checkF t = 0 ∧ ∃ b x', tputF dpF x t = ((b, 0), x') ∧ x'.d.Ok ∧ rightF x'.c = true ∧ b.length ≤ 20000 ∧ ∀ rest, ttakeF dtF x (b ++ rest) = ((t, b.length, 0), x')) := by
  by_cases hc : checkF t = 0
  · refine .inr ⟨hc, (tputF dpF x t).1.1, (tputF dpF x t).2, ?_, tput_ok ok t, tput_r hr t, ?_, fun rest => take_put_t ok hr hc rest⟩
    · have : (tputF dpF x t).1.2 = 0 := by unfold tputF; rw [if_neg (by rw [hc]; simp)]
      exact Prod.ext (Prod.ext rfl this) rfl
    · obtain ⟨_, _, _, hw, ha, _⟩ := check_ok hc
      have e : (tputF dpF x t).1.1 = t.headF x.c ++ (wputF dpF x.d t.w).1 := by unfold tputF; rw [if_neg (by rw [hc]; simp)]
      rw [e]
      have h1 := cputF_len x.c t.c
      have h2 := wput_len t.w x.d ok (fun a h => (ha a h).2.1)
      have l1 := vput_len (n := t.o.toNat) (by omega)
      have l2 := vput_len (n := t.s.toNat) (by omega)
      have l3 := vput_len (n := t.w.length) (by omega)
      unfold Tx.headF
      simp only [List.length_append]; omega
  · refine .inl ⟨hc, ?_⟩
    unfold tputF; rw [if_pos hc]
theorem ttake_two {x : Cod Di} (ok : x.d.Ok) (hr : rightF x.c = true) (b : List UInt8) :
    (∃ e, e ≠ 0 ∧ ttakeF dtF x b = ((Tx.zero, 0, e), x)) ∨ (∃ t n x', ttakeF dtF x b = ((t, n, 0), x') ∧ tputF dpF x t = ((b.take n, 0), x') ∧ 1 ≤ n ∧ n ≤ b.length ∧ checkF t = 0 ∧ x'.d.Ok ∧ rightF x'.c = true ∧ t.w.length ≤ 16) := by
  by_cases he : (ttakeF dtF x b).1.2.2 = 0
  · have h : ttakeF dtF x b = (((ttakeF dtF x b).1.1, (ttakeF dtF x b).1.2.1, 0), (ttakeF dtF x b).2) := Prod.ext (Prod.ext rfl (Prod.ext rfl he)) rfl
    obtain ⟨a1, a2, a3, a4, a5, a6⟩ := put_take_t ok hr h
    exact .inr ⟨_, _, _, h, a1, a2, a3, a4, a5, a6, ttake_w ok hr h⟩
  · exact .inl ⟨_, he, ttake_err rfl he⟩
end Go.Proofs.YtgfnpcmehnjopaaDoor
end
section
namespace Go.Proofs.YtgfnpcmehnjopaaDoor
open Go Go.RowKit
set_option linter.unusedVariables false
set_option linter.unusedSimpArgs false
variable {F : Fr} {P : Program} {M : Oper → TypeId → Bool} {K : Nat → Obj → Prop} {n0 : Nat}
abbrev Runner := FuncId → List V → List Ho → Option (V × List Ho)
def Right (P : Program) (K : Nat → Obj → Prop) (call : Runner) : Prop :=
  ∀ f vs h v h', call f vs h = some (v, h') → Enters P f ∧ Sp P K f vs h fun u hh => u = v ∧ hh = h'
def xRes (call : Runner) (st : Sv) (dst : Option Tmp) : Res → Option Sv
  | .val v h' => some ⟨putV st.tm dst v, trimY h'⟩
  | .call f vs => match call f vs st.h with
    | some (v, h') => some ⟨putV st.tm dst v, h'⟩
    | none => none
  | .no => none
def xOps (P : Program) (M : Oper → TypeId → Bool) (call : Runner) (ops : Array Oper) : List Oper → Sv → Option Sv
  | [], st => some st
  | o :: l, st => match wantedV ops st.tm o with
    | some true => match xRes call st o.dst (opV P (M o) st.tm (st.h ++ [.yet]) st.h.length o) with
      | some st' => xOps P M call ops l st'
      | none => none
    | some false => xOps P M call ops l ⟨putV st.tm o.dst .undef, st.h⟩
    | none => none
mutual
def refsV (p : Nat → Bool) : V → Bool
  | .d _ => true
  | .agg cs => refsL p cs
  | .tup cs => refsL p cs
  | .own _ _ t => p t
  | .full _ _ => true
  | .ptr o _ => p o
  | .ep _ _ => true
  | .hs _ _ o _ _ => p o
  | .mp o => p o
  | .fn _ cs => refsL p cs
  | .fnb _ cs => refsL p cs
  | .any => true
  | .ub => true
def refsL (p : Nat → Bool) : List V → Bool
  | [] => true
  | v :: vs => refsV p v && refsL p vs
end
def refsO (p : Nat → Bool) : Ho → Bool
  | .cells cs => refsL p cs
  | .map m => m.es.all fun e => refsV p e.val
  | _ => true
mutual
theorem renV_back {g k : Nat → Nat} {p : Nat → Bool} (h : ∀ i, p i = true → g (k i) = i) : ∀ v : V, refsV p v = true → renV g (renV k v) = v
  | .d x, _ => rfl
  | .agg cs, hp => by simp only [refsV] at hp; simp only [renV]; rw [renL_back h cs hp]
  | .tup cs, hp => by simp only [refsV] at hp; simp only [renV]; rw [renL_back h cs hp]
  | .own _ _ t, hp => by simp only [refsV] at hp; simp only [renV]; rw [h t hp]
  | .full _ _, _ => rfl
  | .ptr o _, hp => by simp only [refsV] at hp; simp only [renV]; rw [h o hp]
  | .ep _ _, _ => rfl
  | .hs _ _ o _ _, hp => by simp only [refsV] at hp; simp only [renV]; rw [h o hp]
  | .mp o, hp => by simp only [refsV] at hp; simp only [renV]; rw [h o hp]
  | .fn _ cs, hp => by simp only [refsV] at hp; simp only [renV]; rw [renL_back h cs hp]
  | .fnb _ cs, hp => by simp only [refsV] at hp; simp only [renV]; rw [renL_back h cs hp]
  | .any, _ => rfl
  | .ub, _ => rfl
theorem renL_back {g k : Nat → Nat} {p : Nat → Bool} (h : ∀ i, p i = true → g (k i) = i) : ∀ l : List V, refsL p l = true → renL g (renL k l) = l
  | [], _ => rfl
  | v :: vs, hp => by
    simp only [refsL, Bool.and_eq_true] at hp
    simp only [renL]
    rw [renV_back h v hp.1, renL_back h vs hp.2]
end
mutual
def nosV : V → List Nat
  | .agg cs => nosL cs
  | .tup cs => nosL cs
  | .own _ _ t => [t]
  | .ptr o _ => [o]
  | .hs _ _ o _ _ => [o]
  | .mp o => [o]
  | .fn _ cs => nosL cs
  | .fnb _ cs => nosL cs
  | _ => []
def nosL : List V → List Nat
  | [] => []
  | v :: vs => nosV v ++ nosL vs
end
def nosO : Ho → List Nat
  | .cells cs => nosL cs
  | .map m => nosL (m.es.map (·.val))
  | _ => []
def reach (h : List Ho) : Nat → List Nat → List Nat → List Nat
  | 0, _, acc => acc
  | k + 1, [], acc => acc
  | k + 1, i :: l, acc => if acc.contains i then reach h k l acc else match h[i]? with
    | some o => reach h k (nosO o ++ l) (acc ++ [i])
    | none => reach h k l acc
def idxOf (ρ : List Nat) (i : Nat) : Nat := ρ.idxOf i
def handed (ρ : List Nat) (vs : List V) (h : List Ho) : Option (List V × List Ho) :=
  match pickH h ρ with
  | some os => if decide ρ.Nodup && (refsL ρ.contains vs && os.all (refsO ρ.contains)) then some (renL ρ.idxOf vs, os.map (renO ρ.idxOf)) else none
  | none => none
def xDraw (P : Program) (M : Oper → TypeId → Bool) (call : Runner) (ops : Array Oper) : List Oper → List V → List Ho → List (List Nat × List Nat) → Option Sv
  | [], tm, h, ids => match okOrd ops ids.reverse with
    | true => some ⟨tm, h⟩
    | false => none
  | o :: l, tm, h, ids => match wantedV ops tm o with
    | none => none
    | some false => xDraw P M call ops l (putV tm o.dst .undef) h (([], []) :: ids)
    | some true => match opL P (M o) tm o with
      | .pure v => xDraw P M call ops l (putV tm o.dst v) h (([], []) :: ids)
      | .read i k => match (h[i]?).bind k with
        | some v => xDraw P M call ops l (putV tm o.dst v) h (([i], []) :: ids)
        | none => none
      | .write i k => match (h[i]?).bind k with
        | some (v, ob) => xDraw P M call ops l (putV tm o.dst v) (h.set i ob) (([i], [i]) :: ids)
        | none => none
      | .new v ob => xDraw P M call ops l (putV tm o.dst (v h.length)) (h ++ [ob]) (([h.length], [h.length]) :: ids)
      | .app t v => match h[t]? with
        | some .tail => xDraw P M call ops l (putV tm o.dst (v h.length)) (((h ++ [Ho.yet]).set t .dead).set h.length .tail) (([t, h.length], [t, h.length]) :: ids)
        | _ => none
      | .call f vs => match handed (reach h 1000 (nosL vs) []) vs h with
        | some (vs', hl) => match call f vs' hl with
          | some (v, hl') =>
            if (reach h 1000 (nosL vs) []).length ≤ hl'.length ∧ decide (reach h 1000 (nosL vs) [] ++ frs h.length (hl'.length - (reach h 1000 (nosL vs) []).length)).Nodup = true then
              xDraw P M call ops l (putV tm o.dst (renV (gB (reach h 1000 (nosL vs) [] ++ frs h.length (hl'.length - (reach h 1000 (nosL vs) []).length)) 0) v))
                (wrs (padY h (hl'.length - (reach h 1000 (nosL vs) []).length)) ((reach h 1000 (nosL vs) [] ++ frs h.length (hl'.length - (reach h 1000 (nosL vs) []).length)).zip (hl'.map (renO (gB (reach h 1000 (nosL vs) [] ++ frs h.length (hl'.length - (reach h 1000 (nosL vs) []).length)) 0)))))
                ((reach h 1000 (nosL vs) [] ++ frs h.length (hl'.length - (reach h 1000 (nosL vs) []).length), ((reach h 1000 (nosL vs) [] ++ frs h.length (hl'.length - (reach h 1000 (nosL vs) []).length)).zip (hl'.map (renO (gB (reach h 1000 (nosL vs) [] ++ frs h.length (hl'.length - (reach h 1000 (nosL vs) []).length)) 0)))).map (·.1)) :: ids)
            else none
          | none => none
        | none => none
      | .no => none
def cvM (M : Oper → TypeId → Bool) (ops : Array Oper) : Oper → TypeId → Bool := fun o t => M o t || match o.op, o.dst with
  | .buildSlice _ _ _, some d => ops.any fun o' => match o'.op with
    | .convert s s' (.tmp d') => s == t && s' == t && d' == d
    | _ => false
  | _, _ => false
def xCode (P : Program) (M : Oper → TypeId → Bool) (call : Runner) : Nat → Code → Sv → Option (Exit × Sv)
  | 0, _, _ => none
  | n + 1, .skip, st => some (.normal, st)
  | n + 1, .label _, st => some (.normal, st)
  | n + 1, .exit id, st => some (.exit id, st)
  | n + 1, .ret, st => some (.ret, st)
  | n + 1, .scope x, st => xCode P M call n x st
  | n + 1, .block id x, st => match xCode P M call n x st with
    | some (.exit id', st') => if id' = id then some (.normal, st') else some (.exit id', st')
    | r => r
  | n + 1, .seq x y, st => match xCode P M call n x st with
    | some (.normal, st') => xCode P M call n y st'
    | r => r
  | n + 1, .cond c x y, st => match evV st.tm c with
    | some (.d (.sc (.bool true))) => xCode P M call n x st
    | some (.d (.sc (.bool false))) => xCode P M call n y st
    | _ => none
  | n + 1, .loop x, st => match xCode P M call n x st with
    | some (.normal, st') => xCode P M call n (.loop x) st'
    | r => r
  | n + 1, .region _ ops false, st => match xOps P (cvM M ops) call ops ops.toList st with
    | some st' => some (.normal, st')
    | none => none
  | n + 1, .region _ ops true, st => match okR ops, P.follows .mixedOrders, xDraw P (cvM M ops) call ops ops.toList st.tm st.h [] with
    | true, true, some st' => some (.normal, st')
    | _, _, _ => none
  | _, _, _ => none
def noX : Runner := fun _ _ _ => none
def xFun (P : Program) (M : Oper → TypeId → Bool) (X : Runner) : Nat → Runner
  | 0, _, _, _ => none
  | n + 1, f, vs, h => match X f vs h with
    | some r => some r
    | none => match P.funcs[f]? with
    | some fn => match fn.body with
      | some c => match xCode P M (xFun P M X n) 100000 c ⟨vs ++ List.replicate (fn.ntmps - vs.length) .undef, h⟩ with
        | some (.normal, st) => match resultV P st fn.results.toList with
          | some v => some (v, st.h)
          | none => none
        | some (.ret, st) => match resultV P st fn.results.toList with
          | some v => some (v, st.h)
          | none => none
        | _ => none
      | none => none
    | none => none
def xTrue (P : Program) (M : Oper → TypeId → Bool) (X : Runner) (n : Nat) (f : FuncId) : Bool := match xFun P M X n f [] [] with
  | some (.d (.sc (.bool true)), _) => true
  | _ => false
end Go.Proofs.YtgfnpcmehnjopaaDoor
end
section
namespace Go.Proofs.YtgfnpcmehnjopaaDoor
open Go Go.RowKit
set_option linter.unusedVariables false
set_option linter.unusedSimpArgs false
variable {P : Program} {K : Nat → Obj → Prop}
def KT (K : Nat → Obj → Prop) : Prop := ∃ (arr : Array Value) (T : TypeId) (fr : Nat × Nat), K 1 (.cells arr T fr) ∧ ∀ i : UInt32, i.toNat < 16 → arr[(U i).toNat]? = some (.int .u32 (U (four i)))
def Knw (K : Nat → Obj → Prop) (w : World) : Prop := ∀ b x, K b x → w.heap[b]? = some x
theorem KT.tab {w : World} (h : KT K) (hk : Knw K w) : Tab w := fun i hi => by
  obtain ⟨arr, T, fr, h1, h2⟩ := h
  exact (cell_of w _ _ _).2 ⟨arr, T, fr, hk _ _ h1, h2 i hi⟩
theorem Inv.knw {F : Fr} {φ : List Pl} {w : World} {h : List Ho} (hi : Inv F φ w h) (hK : F.known = K) : Knw K w := fun b x hx => (hi.frK b x (by rw [hK]; exact hx)).1
theorem Sp.ofBK {f : FuncId} {vs : List V} {h : List Ho} {l : List UInt8}
    (hc : ∀ (F : Fr) (φ : List Pl) (w : World) (args : Array Value), Knw K w → DenL F φ w args.toList vs → Calls P f args w (RetB w l)) : Sp P K f vs h fun u hh => u = .sl 1 (bs l) ∧ hh = h := by
  intro F φ w args hK hi hd
  refine (hc F φ w args (hi.knw hK) hd).mono ?_
  rintro e w' ⟨u, rfl, ho, bel⟩
  exact ⟨_, φ, _, h, rfl, .more bel.size (fun b hb => bel.block b hb) (io_below bel), hi.more bel.size (fun b hb => bel.block b hb) (io_below bel), .d (Den.ofOwn hi bel.size ho), rfl, rfl⟩
theorem Sp.ofBEK {f : FuncId} {vs : List V} {h : List Ho} {l : List UInt8} {n : Int}
    (hc : ∀ (F : Fr) (φ : List Pl) (w : World) (args : Array Value), Knw K w → DenL F φ w args.toList vs → Calls P f args w (RetBE w l n)) : Sp P K f vs h fun u hh => u = .tup [.sl 1 (bs l), .sc (.int .i64 n)] ∧ hh = h := by
  intro F φ w args hK hi hd
  refine (hc F φ w args (hi.knw hK) hd).mono ?_
  rintro e w' ⟨u, rfl, ho, bel⟩
  refine ⟨_, φ, _, h, rfl, .more bel.size (fun b hb => bel.block b hb) (io_below bel), hi.more bel.size (fun b hb => bel.block b hb) (io_below bel), ?_, rfl, rfl⟩
  refine .tup rfl fun i r v hr hv => ?_
  match i, hr, hv with
  | 0, hr, hv => simp at hr hv; subst hr hv; exact .d (Den.ofOwn hi bel.size ho)
  | 1, hr, hv => simp at hr hv; subst hr hv; exact .d (.sc rfl)
theorem bclone_s (l : List UInt8) (hl : l.length ≤ 1000000000) (h : List Ho) : Sp Tryd.prog K 75 [.sl 1 (bs l)] h fun u hh => u = .sl 1 (bs l) ∧ hh = h :=
  .ofB fun F φ w args hd => by
    obtain ⟨r, rfl, h1⟩ := args1 hd
    exact clone_c r l w (den_in h1).sb (by omega)
theorem seal_s (hK : KT K) (l : List UInt8) (hl : l.length ≤ 1000000000) (h : List Ho) : Sp Tryd.prog K 36 [.sl 1 (bs l)] h fun u hh => u = .sl 1 (bs (sealF l)) ∧ hh = h :=
  .ofBK fun F φ w args hk hd => by
    obtain ⟨r, rfl, h1⟩ := args1 hd
    exact seal_c r l w (hK.tab hk) (den_in h1).sb hl
theorem open_s (hK : KT K) (l : List UInt8) (hl : l.length ≤ 1000000000) (h : List Ho) : Sp Tryd.prog K 76 [.sl 1 (bs l)] h fun u hh => u = .tup [.sl 1 (bs (openF l).1), .sc (.int .i64 (openF l).2)] ∧ hh = h :=
  .ofBEK fun F φ w args hk hd => by
    obtain ⟨r, rfl, h1⟩ := args1 hd
    exact open_c r l w (hK.tab hk) (den_in h1).sb hl
theorem sealF_len (l : List UInt8) : (sealF l).length = l.length + 4 := by simp [sealF, tail4]
theorem Wk.toD {v : V} {x : D} {vs vs' : List V} (e : toD v = some x) (h : Wk vs vs') : Wk (v :: vs) (.d x :: vs') := by
  cases v <;> simp only [Proofs.YtgfnpcmehnjopaaDoor.toD, Option.some.injEq, reduceCtorEq] at e
  · subst e; exact .same h
  · subst e; exact .own h
  · subst e; exact .full h
def bytesV (v : V) : Option (List UInt8) := match toD v with
  | some (.sl 1 es) => unbs es
  | _ => none
def crcX : Runner := fun f vs h =>
  if f = 41 then match vs with
    | [v, .d (.sc (.int .i64 a)), .d (.sc (.int .u32 m))] => match bytesV v with
      | some l => if l.length ≤ 1000000000 ∧ -9223372036854775808 ≤ a ∧ a ≤ 9223372036854775807 ∧ U (UInt32.ofNat m.toNat) = m then some (.sl 1 (bs (turnF a (UInt32.ofNat m.toNat) l)), h) else none
      | none => none
    | _ => none
  else if f = 36 then match vs with
    | [v] => match bytesV v with
      | some l => if l.length ≤ 1000000000 then some (.sl 1 (bs (sealF l)), h) else none
      | none => none
    | _ => none
  else if f = 76 then match vs with
    | [v] => match bytesV v with
      | some l => if l.length ≤ 1000000000 then some (.tup [.sl 1 (bs (openF l).1), .sc (.int .i64 (openF l).2)], h) else none
      | none => none
    | _ => none
  else none
end Go.Proofs.YtgfnpcmehnjopaaDoor
end
section
namespace Go.Proofs.YtgfnpcmehnjopaaDoor
open Go Go.RowKit
set_option linter.unusedVariables false
set_option linter.unusedSimpArgs false
def rs (l : List (List UInt8)) : List (List D) := l.map fun p => [.sl 1 (bs p)]
theorem rs_len (l : List (List UInt8)) : (rs l).length = l.length := by simp [rs]
theorem rs_get (l : List (List UInt8)) (i : Nat) : (rs l)[i]? = (l[i]?).map fun p => [.sl 1 (bs p)] := by simp [rs]
theorem rs_snoc (l : List (List UInt8)) (p : List UInt8) : rs l ++ [[.sl 1 (bs p)]] = rs (l ++ [p]) := by simp [rs]
theorem rs_take (l : List (List UInt8)) (n : Nat) : (rs l).take n = rs (l.take n) := by simp [rs]
theorem rs_drop (l : List (List UInt8)) (n : Nat) : (rs l).drop n = rs (l.drop n) := by simp [rs]
attribute [go_sem] rs_len rs_get rs_snoc rs_take rs_drop
def wrapF (p : List UInt8) : List UInt8 × Int := if 8192 < p.length then ([], 4) else (sealF (vput p.length ++ p), 0)
def nextF (b : List UInt8) : List UInt8 × Nat × Int :=
  if (tk b).2.2 ≠ 0 then ([], 0, (tk b).2.2) else if 8192 < (tk b).1.toNat then ([], 0, 4)
  else if b.length < (tk b).2.1 + (tk b).1.toNat + 4 then ([], 0, 2)
  else if (openF (b.take ((tk b).2.1 + (tk b).1.toNat + 4))).2 ≠ 0 then ([], 0, (openF (b.take ((tk b).2.1 + (tk b).1.toNat + 4))).2)
  else ((openF (b.take ((tk b).2.1 + (tk b).1.toNat + 4))).1.drop (tk b).2.1, (tk b).2.1 + (tk b).1.toNat + 4, 0)
def scanN (b : List UInt8) : Nat → List (List UInt8) → Nat → List (List UInt8) × Nat × Int
  | 0, out, used => (out, used, 0)
  | k + 1, out, used => if used = b.length then (out, used, 0) else if (nextF (b.drop used)).2.2 ≠ 0 then (out, used, (nextF (b.drop used)).2.2) else scanN b k (out ++ [(nextF (b.drop used)).1]) (used + (nextF (b.drop used)).2.1)
def scanF (b : List UInt8) : List (List UInt8) × Nat × Int := scanN b (b.length + 1) [] 0
def allN : List (List UInt8) → List UInt8 → List UInt8 × Int
  | [], b => (b, 0)
  | p :: l, b => if (wrapF p).2 ≠ 0 then ([], (wrapF p).2) else allN l (b ++ (wrapF p).1)
def allF (l : List (List UInt8)) : List UInt8 × Int := allN l []
theorem wrapF_len (p : List UInt8) : (wrapF p).1.length ≤ 9000 := by
  unfold wrapF
  split
  · simp
  · have := vput_len (n := p.length) (by omega)
    simp [sealF_len]; omega
theorem openF_ok {b : List UInt8} (h : (openF b).2 = 0) : 4 ≤ b.length ∧ (openF b).1 = b.take (b.length - 4) ∧ sealF (b.take (b.length - 4)) = b := by
  unfold openF at h ⊢
  split at h
  · simp at h
  · rename_i h4
    split at h
    · rename_i hs
      rw [if_neg h4, if_pos hs]
      exact ⟨by omega, rfl, hs⟩
    · simp at h
theorem nextF_ok {b p : List UInt8} {n : Nat} (h : nextF b = (p, n, 0)) : n ≤ b.length ∧ 5 ≤ n ∧ p.length ≤ 8192 ∧ wrapF p = (b.take n, 0) := by
  unfold nextF at h
  split at h
  · rename_i h1
    simp only [Prod.mk.injEq] at h
    exact absurd h.2.2 h1
  · rename_i h1
    have ht := tk_ok (Decidable.not_not.1 h1)
    split at h
    · simp at h
    · rename_i h2
      split at h
      · simp at h
      · rename_i h3
        split at h
        · rename_i h4
          simp only [Prod.mk.injEq] at h
          exact absurd h.2.2 h4
        · rename_i h4
          have ho := openF_ok (Decidable.not_not.1 h4)
          simp only [Prod.mk.injEq, and_true] at h
          obtain ⟨hp, hn⟩ := h
          obtain ⟨g1, g2, g3⟩ := ho
          have hl : (b.take ((tk b).2.1 + (tk b).1.toNat + 4)).length = (tk b).2.1 + (tk b).1.toNat + 4 := by rw [List.length_take]; omega
          rw [hl] at g1 g2 g3
          have e1 : (tk b).2.1 + (tk b).1.toNat + 4 - 4 = (tk b).2.1 + (tk b).1.toNat := by omega
          rw [e1, List.take_take, Nat.min_eq_left (by omega)] at g2 g3
          rw [g2] at hp
          have hpl : p.length = (tk b).1.toNat := by rw [← hp, List.length_drop, List.length_take]; omega
          have hsp : b.take ((tk b).2.1 + (tk b).1.toNat) = vput p.length ++ p := by
            rw [hpl, ht.2.2, ← hp]
            have := List.take_append_drop (tk b).2.1 (b.take ((tk b).2.1 + (tk b).1.toNat))
            rw [List.take_take, Nat.min_eq_left (by omega)] at this
            exact this.symm
          refine ⟨by omega, by omega, by omega, ?_⟩
          unfold wrapF
          rw [if_neg (by omega), ← hsp, g3, hn]
theorem nextF_len (b : List UInt8) : (nextF b).2.1 ≤ b.length ∧ ((nextF b).2.2 = 0 → 5 ≤ (nextF b).2.1) := by
  obtain ⟨p, n, e, h⟩ : ∃ p n e, nextF b = (p, n, e) := ⟨_, _, _, rfl⟩
  rw [h]
  by_cases he : e = 0
  · subst he
    have := nextF_ok h
    exact ⟨this.1, fun _ => this.2.1⟩
  · refine ⟨?_, fun e0 => absurd e0 he⟩
    have : n = 0 := by
      unfold nextF at h
      split at h
      · simp at h; omega
      split at h
      · simp at h; omega
      split at h
      · simp at h; omega
      split at h
      · simp at h; omega
      · simp at h; omega
    dsimp only; omega
theorem nextF_rec (b : List UInt8) : (nextF b).1.length ≤ b.length := by
  obtain ⟨p, n, e, h⟩ : ∃ p n e, nextF b = (p, n, e) := ⟨_, _, _, rfl⟩
  rw [h]
  unfold nextF at h
  split at h
  · simp at h; rw [h.1]; simp
  split at h
  · simp at h; rw [h.1]; simp
  split at h
  · simp at h; rw [h.1]; simp
  split at h
  · simp at h; rw [h.1]; simp
  · rename_i h4
    have ho := openF_ok (Decidable.not_not.1 h4)
    simp only [Prod.mk.injEq] at h
    rw [← h.1, ho.2.1]
    simp; omega
end Go.Proofs.YtgfnpcmehnjopaaDoor
end
section
namespace Go.Proofs.YtgfnpcmehnjopaaDoor
open Go Go.RowKit
set_option linter.unusedVariables false
set_option linter.unusedSimpArgs false
theorem sealF_eq (l : List UInt8) : ∃ t : List UInt8, t.length = 4 ∧ sealF l = l ++ t := ⟨_, rfl, rfl⟩
theorem wrapF_ok {p f : List UInt8} (h : wrapF p = (f, 0)) : p.length ≤ 8192 ∧ f = sealF (vput p.length ++ p) ∧ f.length = (vput p.length).length + p.length + 4 := by
  unfold wrapF at h
  split at h
  · simp at h
  · rename_i h1
    simp only [Prod.mk.injEq, and_true] at h
    exact ⟨by omega, h.symm, by rw [← h, sealF_len]; simp⟩
theorem wrapF_small {p : List UInt8} (h : p.length ≤ 8192) : wrapF p = (sealF (vput p.length ++ p), 0) := by unfold wrapF; rw [if_neg (by omega)]
theorem nextF_frame {p f : List UInt8} (h : wrapF p = (f, 0)) (r : List UInt8) : nextF (f ++ r) = (p, f.length, 0) := by
  obtain ⟨h1, h2, h3⟩ := wrapF_ok h
  obtain ⟨t, ht, hs⟩ := sealF_eq (vput p.length ++ p)
  rw [hs] at h2
  have e1 : f ++ r = vput p.length ++ (p ++ t ++ r) := by rw [h2]; simp
  have e2 := tk_nat p.length (by omega) (p ++ t ++ r)
  rw [← e1] at e2
  have e3 : (UInt64.ofNat p.length).toNat = p.length := UInt64.toNat_ofNat_of_lt' (by show p.length < 18446744073709551616; omega)
  unfold nextF
  rw [e2]
  dsimp only
  rw [e3, ← h3]
  have e4 : (f ++ r).take f.length = f := by simp
  rw [e4]
  have e5 : openF f = (vput p.length ++ p, 0) := by rw [h2, ← hs]; exact openF_seal _
  rw [e5]
  rw [if_neg (by simp), if_neg (by omega), if_neg (by simp), if_neg (by simp)]
  simp
def frow (l : List (List UInt8)) : List UInt8 := (l.map fun p => (wrapF p).1).flatten
def Fits (l : List (List UInt8)) : Prop := ∀ p ∈ l, p.length ≤ 8192
theorem Fits.cons {p : List UInt8} {l : List (List UInt8)} (h : Fits (p :: l)) : p.length ≤ 8192 ∧ Fits l := ⟨h p (by simp), fun q hq => h q (by simp [hq])⟩
end Go.Proofs.YtgfnpcmehnjopaaDoor
end
section
namespace Go.Proofs.YtgfnpcmehnjopaaDoor
open Go Go.RowKit
set_option linter.unusedVariables false
set_option linter.unusedSimpArgs false
structure Shd where
  o : Int
  p : Int
  f : Int
def Shd.z : Shd := ⟨0, 0, 0⟩
structure Wtr where
  o : Int
  n : Int
  c : Cod Di
def segChk (h : Shd) : Int := if h.o < 0 ∨ 2 < h.o then 9 else if h.p < 0 ∨ 4611686018427387903 < h.p ∨ h.f < 1 ∨ 4611686018427387903 < h.f then 1 else 0
theorem segChk_ok {h : Shd} (e : segChk h = 0) : (0 ≤ h.o ∧ h.o ≤ 2) ∧ (0 ≤ h.p ∧ h.p ≤ 4611686018427387903) ∧ 1 ≤ h.f ∧ h.f ≤ 4611686018427387903 := by
  unfold segChk at e
  split at e
  · exact absurd e (by decide)
  split at e
  · exact absurd e (by decide)
  omega
def headB (h : Shd) : List UInt8 := vput h.o.toNat ++ vput h.p.toNat ++ vput h.f.toNat
def Wtr.new (h : Shd) : Wtr := ⟨h.o, h.f, Cod.new⟩
def Wtr.put (w : Wtr) (t : Tx) : (List UInt8 × Int) × Wtr :=
  if checkF t ≠ 0 then (([], checkF t), w) else if t.o ≠ w.o ∨ t.s ≠ w.n then (([], 6), w) else (wrapF (tputF dpF w.c t).1.1, ⟨w.o, w.n + 1, (tputF dpF w.c t).2⟩)
def nxtF (b : List UInt8) : Nat × Int × List UInt8 := ((tk b).1.toNat, if (tk b).2.2 = 0 ∧ 4611686018427387903 < (tk b).1.toNat then 1 else (tk b).2.2, b.drop (tk b).2.1)
def headF (b : List UInt8) : Shd × Int :=
  if (nxtF b).2.1 ≠ 0 then (.z, (nxtF b).2.1) else
  if (nxtF (nxtF b).2.2).2.1 ≠ 0 then (.z, (nxtF (nxtF b).2.2).2.1) else
  if (nxtF (nxtF (nxtF b).2.2).2.2).2.1 ≠ 0 then (.z, (nxtF (nxtF (nxtF b).2.2).2.2).2.1) else
  if 0 < (nxtF (nxtF (nxtF b).2.2).2.2).2.2.length then (.z, 3) else
  if segChk ⟨(nxtF b).1, (nxtF (nxtF b).2.2).1, (nxtF (nxtF (nxtF b).2.2).2.2).1⟩ ≠ 0 then (.z, segChk ⟨(nxtF b).1, (nxtF (nxtF b).2.2).1, (nxtF (nxtF (nxtF b).2.2).2.2).1⟩) else
  (⟨(nxtF b).1, (nxtF (nxtF b).2.2).1, (nxtF (nxtF (nxtF b).2.2).2.2).1⟩, 0)
def segGo (b : List UInt8) (h : Shd) : Nat → Nat → Cod Di → List Tx → List Tx × Nat × Int
  | 0, used, x, acc => (acc, used, 0)
  | k + 1, used, x, acc => if b.length ≤ used then (acc, used, 0) else
    if (nextF (b.drop used)).2.2 ≠ 0 then (acc, used, (nextF (b.drop used)).2.2) else
    if (ttakeF dtF x (nextF (b.drop used)).1).1.2.2 ≠ 0 then (acc, used, (ttakeF dtF x (nextF (b.drop used)).1).1.2.2) else
    if (ttakeF dtF x (nextF (b.drop used)).1).1.2.1 ≠ (nextF (b.drop used)).1.length then (acc, used, 3) else
    if (ttakeF dtF x (nextF (b.drop used)).1).1.1.o ≠ h.o ∨ (ttakeF dtF x (nextF (b.drop used)).1).1.1.s ≠ h.f + acc.length then (acc, used, 6) else
    segGo b h k (used + (nextF (b.drop used)).2.1) (ttakeF dtF x (nextF (b.drop used)).1).2 (acc ++ [(ttakeF dtF x (nextF (b.drop used)).1).1.1])
theorem segGo_end {b : List UInt8} {h : Shd} {k used : Nat} {x : Cod Di} {acc : List Tx} (hu : b.length ≤ used) : segGo b h k used x acc = (acc, used, 0) := by
  cases k with
  | zero => rfl
  | succ k => unfold segGo; rw [if_pos hu]
theorem segGo_err {b : List UInt8} {h : Shd} {k used : Nat} {x : Cod Di} {acc : List Tx} {p : List UInt8} {n : Nat} {e : Int} (hu : used < b.length) (hn : nextF (b.drop used) = (p, n, e)) (he : e ≠ 0) : segGo b h (k + 1) used x acc = (acc, used, e) := by
  unfold segGo; rw [if_neg (by omega), hn]; exact if_pos he
theorem segGo_bad {b : List UInt8} {h : Shd} {k used : Nat} {x y : Cod Di} {acc : List Tx} {p : List UInt8} {n m : Nat} {t : Tx} {e : Int} (hu : used < b.length) (hn : nextF (b.drop used) = (p, n, 0)) (ht : ttakeF dtF x p = ((t, m, e), y)) :
    segGo b h (k + 1) used x acc = if e ≠ 0 then (acc, used, e) else if m ≠ p.length then (acc, used, 3) else if t.o ≠ h.o ∨ t.s ≠ h.f + acc.length then (acc, used, 6) else segGo b h k (used + n) y (acc ++ [t]) := by
  show (if b.length ≤ used then _ else _) = _
  rw [if_neg (by omega), hn]
  dsimp only
  rw [ht]
  dsimp only
  rw [if_neg (by simp)]
def segRead (b : List UInt8) : Shd × List Tx × Nat × Int :=
  if (nextF b).2.2 ≠ 0 then (.z, [], 0, (nextF b).2.2) else
  if (headF (nextF b).1).2 ≠ 0 then (.z, [], 0, (headF (nextF b).1).2) else
  ((headF (nextF b).1).1, (segGo b (headF (nextF b).1).1 (b.length + 1) (nextF b).2.1 Cod.new []).1, (segGo b (headF (nextF b).1).1 (b.length + 1) (nextF b).2.1 Cod.new []).2.1, (segGo b (headF (nextF b).1).1 (b.length + 1) (nextF b).2.1 Cod.new []).2.2)
def goesGo : Wtr → List Tx → Option Wtr
  | w, [] => some w
  | w, t :: l => if (w.put t).1.2 ≠ 0 then none else goesGo (w.put t).2 l
theorem headF_of {b r1 r2 r3 : List UInt8} {n1 n2 n3 : Nat} {e1 e2 e3 : Int} (h1 : nxtF b = (n1, e1, r1)) (h2 : nxtF r1 = (n2, e2, r2)) (h3 : nxtF r2 = (n3, e3, r3)) :
    headF b = if e1 ≠ 0 then (.z, e1) else if e2 ≠ 0 then (.z, e2) else if e3 ≠ 0 then (.z, e3) else if 0 < r3.length then (.z, 3) else if segChk ⟨n1, n2, n3⟩ ≠ 0 then (.z, segChk ⟨n1, n2, n3⟩) else (⟨n1, n2, n3⟩, 0) := by
  unfold headF
  simp only [h1, h2, h3]
theorem headF_ok {b : List UInt8} {h : Shd} (e : headF b = (h, 0)) : segChk h = 0 := by
  obtain ⟨n1, e1, r1, h1⟩ : ∃ n e r, nxtF b = (n, e, r) := ⟨_, _, _, rfl⟩
  obtain ⟨n2, e2, r2, h2⟩ : ∃ n e r, nxtF r1 = (n, e, r) := ⟨_, _, _, rfl⟩
  obtain ⟨n3, e3, r3, h3⟩ : ∃ n e r, nxtF r2 = (n, e, r) := ⟨_, _, _, rfl⟩
  rw [headF_of h1 h2 h3] at e
  clear h1 h2 h3
  split at e
  · rename_i h0; simp only [Prod.mk.injEq] at e; exact absurd e.2 h0
  split at e
  · rename_i h0; simp only [Prod.mk.injEq] at e; exact absurd e.2 h0
  split at e
  · rename_i h0; simp only [Prod.mk.injEq] at e; exact absurd e.2 h0
  split at e
  · simp at e
  split at e
  · rename_i h0; simp only [Prod.mk.injEq] at e; exact absurd e.2 h0
  · rename_i h0; simp only [Prod.mk.injEq, and_true] at e; rw [← e]; exact Decidable.not_not.1 h0
theorem nxtF_bd {b r : List UInt8} {n : Nat} {e : Int} (h : nxtF b = (n, e, r)) : n < 18446744073709551616 ∧ (e = 0 → n ≤ 4611686018427387903) ∧ r.length ≤ b.length := by
  unfold nxtF at h
  simp only [Prod.mk.injEq] at h
  obtain ⟨rfl, h2, rfl⟩ := h
  refine ⟨UInt64.toNat_lt _, fun he => ?_, by simp⟩
  subst he
  split at h2
  · simp at h2
  · omega
theorem nxtF_at {n : Nat} (hn : n ≤ 4611686018427387903) (r : List UInt8) : nxtF (vput n ++ r) = (n, 0, r) := by
  have e := tk_nat n (by omega) r
  have e2 : (UInt64.ofNat n).toNat = n := UInt64.toNat_ofNat_of_lt' (by show n < 18446744073709551616; omega)
  unfold nxtF
  rw [e]
  dsimp only
  rw [e2, if_neg (by omega), List.drop_left]
theorem head_back {h : Shd} (hc : segChk h = 0) : headF (headB h) = (h, 0) := by
  obtain ⟨h1, h2, h3, h4⟩ := segChk_ok hc
  obtain ⟨o, p, f⟩ := h
  dsimp only at h1 h2 h3 h4
  have a1 := nxtF_at (n := o.toNat) (by omega) (vput p.toNat ++ vput f.toNat)
  have a2 := nxtF_at (n := p.toNat) (by omega) (vput f.toNat)
  have a3 := nxtF_at (n := f.toNat) (by omega) []
  rw [List.append_nil] at a3
  have e : (⟨((o.toNat : Nat) : Int), ((p.toNat : Nat) : Int), ((f.toNat : Nat) : Int)⟩ : Shd) = ⟨o, p, f⟩ := by congr 1 <;> omega
  unfold headF headB
  dsimp only
  rw [List.append_assoc, a1]
  dsimp only
  rw [a2]
  dsimp only
  rw [a3]
  dsimp only
  rw [e, hc]
  simp
theorem headB_len {h : Shd} (hc : segChk h = 0) : (headB h).length ≤ 30 := by
  obtain ⟨h1, h2, h3, h4⟩ := segChk_ok hc
  have a1 := vput_len (n := h.o.toNat) (by omega)
  have a2 := vput_len (n := h.p.toNat) (by omega)
  have a3 := vput_len (n := h.f.toNat) (by omega)
  unfold headB
  simp only [List.length_append]; omega
theorem wput_len4 : ∀ (w : List Wr) (d : Di), d.Ok → (∀ a ∈ w, a.v.size ≤ 256) → (wputF dpF d w).1.length ≤ 400 * w.length
  | [], d, _, _ => by simp [wputF]
  | a :: w, d, ok, h => by
    have ih := wput_len4 w (d.put a.k).2 (ok.put a.k) (fun x hx => h x (by simp [hx]))
    have l1 := put_len ok a.k
    have hv := h a (by simp)
    have l2 : a.val.length ≤ 300 := by
      unfold Wr.val
      split
      · simp
      · have := vput_len (n := a.v.size + 1) (by omega)
        simp only [List.length_append, size_toList]; omega
    rw [wputF_cons]
    dsimp only [dpF]
    simp only [List.length_append, List.length_cons]; omega
theorem tput_len8 {x : Cod Di} (ok : x.d.Ok) {t : Tx} (hc : checkF t = 0) : (tputF dpF x t).1.1.length ≤ 8000 := by
  obtain ⟨_, _, _, hw, ha, _⟩ := check_ok hc
  have e : (tputF dpF x t).1.1 = t.headF x.c ++ (wputF dpF x.d t.w).1 := by unfold tputF; rw [if_neg (by rw [hc]; simp)]
  rw [e]
  have h1 := cputF_len x.c t.c
  have h2 := wput_len4 t.w x.d ok (fun a h => (ha a h).2.1)
  have l1 := vput_len (n := t.o.toNat) (by omega)
  have l2 := vput_len (n := t.s.toNat) (by omega)
  have l3 := vput_len (n := t.w.length) (by omega)
  unfold Tx.headF
  simp only [List.length_append]; omega
theorem Wtr.put_two {w : Wtr} (ok : w.c.d.Ok) (hr : rightF w.c.c = true) (t : Tx) :
    (∃ e, e ≠ 0 ∧ w.put t = (([], e), w)) ∨ (checkF t = 0 ∧ t.o = w.o ∧ t.s = w.n ∧ ∃ (p f : List UInt8) (x' : Cod Di), tputF dpF w.c t = ((p, 0), x') ∧ wrapF p = (f, 0) ∧ w.put t = ((f, 0), ⟨w.o, w.n + 1, x'⟩) ∧ x'.d.Ok ∧ rightF x'.c = true ∧ f.length ≤ 9000 ∧ p.length ≤ 8000 ∧ ttakeF dtF w.c p = ((t, p.length, 0), x')) := by
  rcases tput_two ok hr t with ⟨hc, p1⟩ | ⟨hc, b, x', p1, ok', hr', hbl, p2⟩
  · exact .inl ⟨_, hc, by unfold Wtr.put; rw [if_pos hc]⟩
  · by_cases hg : t.o ≠ w.o ∨ t.s ≠ w.n
    · exact .inl ⟨6, by decide, by unfold Wtr.put; rw [if_neg (by rw [hc]; simp), if_pos hg]⟩
    · have l8 := tput_len8 ok hc
      rw [p1] at l8
      have hw := wrapF_small (p := b) (by dsimp only at l8; omega)
      refine .inr ⟨hc, by omega, by omega, b, _, x', p1, hw, ?_, ok', hr', ?_, l8, ?_⟩
      · unfold Wtr.put; rw [if_neg (by rw [hc]; simp), if_neg hg, p1]; dsimp only; rw [hw]
      · have := wrapF_len b; rw [hw] at this; exact this
      · have := p2 []
        rwa [List.append_nil] at this
inductive Laid (h : Shd) : List Tx → List (List UInt8) → Wtr → Prop
  | nil : Laid h [] [] (Wtr.new h)
  | snoc {ts : List Tx} {fs : List (List UInt8)} {w w' : Wtr} {t : Tx} {f : List UInt8} : Laid h ts fs w → w.put t = ((f, 0), w') → Laid h (ts ++ [t]) (fs ++ [f]) w'
structure LInv (h : Shd) (ts : List Tx) (fs : List (List UInt8)) (w : Wtr) : Prop where
  o : w.o = h.o
  n : w.n = h.f + ts.length
  ok : w.c.d.Ok
  r : rightF w.c.c = true
  len : fs.length = ts.length
  w16 : ∀ t ∈ ts, t.w.length ≤ 16
  fl : fs.flatten.length ≤ 9000 * ts.length
theorem Laid.inv {h : Shd} {ts : List Tx} {fs : List (List UInt8)} {w : Wtr} (H : Laid h ts fs w) : LInv h ts fs w := by
  induction H with
  | nil => exact ⟨rfl, by simp [Wtr.new], .nw, r_new, rfl, by simp, by simp⟩
  | snoc H hp ih =>
    rename_i ts fs w w' t f
    obtain ⟨i1, i2, i3, i4, i5, i6, i7⟩ := ih
    rcases Wtr.put_two i3 i4 t with ⟨e, he, p1⟩ | ⟨hc, ho, hs, p, f', x', p1, p2, p3, p4, p5, p6, p7, p8⟩
    · rw [p1] at hp; simp only [Prod.mk.injEq] at hp; exact absurd hp.1.2 he
    · rw [p3] at hp
      simp only [Prod.mk.injEq, and_true] at hp
      obtain ⟨rfl, rfl⟩ := hp
      refine ⟨i1, by dsimp only; rw [i2]; simp; omega, p4, p5, by simp [i5], fun u hu => ?_, ?_⟩
      · rcases List.mem_append.1 hu with hu | hu
        · exact i6 u hu
        · rw [List.mem_singleton.1 hu]; exact (check_ok hc).2.2.2.1
      · simp only [List.flatten_append, List.flatten_cons, List.flatten_nil, List.append_nil, List.length_append, List.length_cons, List.length_nil]; omega
theorem Laid.pre {h : Shd} {ts : List Tx} {fs : List (List UInt8)} {w : Wtr} (H : Laid h ts fs w) : ∀ m, m ≤ ts.length → ∃ w', Laid h (ts.take m) (fs.take m) w' := by
  induction H with
  | nil => intro m hm; exact ⟨_, by simpa using Laid.nil⟩
  | snoc H hp ih =>
    rename_i ts fs w w' t f
    intro m hm
    have hl := H.inv.len
    by_cases h1 : m ≤ ts.length
    · obtain ⟨v, hv⟩ := ih m h1
      refine ⟨v, ?_⟩
      rw [List.take_append_of_le_length h1, List.take_append_of_le_length (by omega)]
      exact hv
    · have : m = ts.length + 1 := by simp at hm; omega
      refine ⟨w', ?_⟩
      rw [List.take_of_length_le (by simp; omega), List.take_of_length_le (by simp; omega)]
      exact .snoc H hp
theorem Laid.read {h : Shd} {ts : List Tx} {fs : List (List UInt8)} {w : Wtr} (H : Laid h ts fs w) : ∀ (pre rest : List UInt8) (k : Nat), segGo (pre ++ (fs.flatten ++ rest)) h (k + ts.length) pre.length Cod.new [] = segGo (pre ++ (fs.flatten ++ rest)) h k (pre.length + fs.flatten.length) w.c ts := by
  induction H with
  | nil => intro pre rest k; rfl
  | snoc H hp ih =>
    rename_i ts fs w w' t f
    intro pre rest k
    obtain ⟨i1, i2, i3, i4, i5, i6, i7⟩ := H.inv
    have e := ih pre (f ++ rest) (k + 1)
    have eb : pre ++ (fs.flatten ++ (f ++ rest)) = pre ++ ((fs ++ [f]).flatten ++ rest) := by simp
    rw [eb] at e
    rw [List.length_append, show k + (ts.length + [t].length) = k + 1 + ts.length by simp; omega, e]
    rcases Wtr.put_two i3 i4 t with ⟨e, he, p1⟩ | ⟨hc, ho, hs, p, f', x', p1, p2, p3, p4, p5, p6, p7, p8⟩
    · rw [p1] at hp; simp only [Prod.mk.injEq] at hp; exact absurd hp.1.2 he
    · rw [p3] at hp
      simp only [Prod.mk.injEq, and_true] at hp
      obtain ⟨rfl, rfl⟩ := hp
      have hd : (pre ++ ((fs ++ [f']).flatten ++ rest)).drop (pre.length + fs.flatten.length) = f' ++ rest := by
        rw [← eb, ← List.append_assoc, ← List.length_append, List.drop_left]
      have hn := nextF_frame p2 rest
      rw [← hd] at hn
      obtain ⟨_, _, fl⟩ := wrapF_ok p2
      rw [segGo_bad (by simp only [List.length_append, List.flatten_append, List.flatten_cons, List.flatten_nil, List.append_nil]; omega) hn p8, if_neg (by simp), if_neg (by simp), if_neg (by omega)]
      simp only [List.flatten_append, List.flatten_cons, List.flatten_nil, List.append_nil, List.length_append, Nat.add_assoc]
theorem nextF_short {p f : List UInt8} (h : wrapF p = (f, 0)) {k : Nat} (hk : k < f.length) : nextF (f.take k) = ([], 0, 2) := by
  obtain ⟨h1, h2, h3⟩ := wrapF_ok h
  obtain ⟨t, ht, hs⟩ := sealF_eq (vput p.length ++ p)
  rw [hs] at h2
  have e3 : (UInt64.ofNat p.length).toNat = p.length := UInt64.toNat_ofNat_of_lt' (by show p.length < 18446744073709551616; omega)
  by_cases hv : k < (vput p.length).length
  · have e : f.take k = (vput p.length).take k := by rw [h2, List.append_assoc, List.take_append_of_le_length (by omega)]
    have ht : tk ((vput p.length).take k) = (0, 0, 2) := by
      obtain ⟨s, e, hs, q1, q2⟩ := scan_form _ (vform_vput p.length) []
      have hl := vput_len (n := p.length) (by omega)
      rw [tk_none, if_pos (by rw [List.length_take]; omega)]
      refine scan_none_of fun j hj h10 => ?_
      rw [List.length_take] at hj
      have := q2 j (by omega)
      rw [List.getElem_append_left (by omega)] at this
      simpa using this
    unfold nextF
    rw [e, ht]
    simp
  · have e : f.take k = vput p.length ++ (p ++ t).take (k - (vput p.length).length) := by
      rw [h2, List.append_assoc, List.take_append, List.take_of_length_le (by omega)]
    have e2 := tk_nat p.length (by omega) ((p ++ t).take (k - (vput p.length).length))
    rw [← e] at e2
    unfold nextF
    rw [e2]
    dsimp only
    rw [e3, if_neg (by simp), if_neg (by omega), if_pos (by rw [List.length_take]; omega)]
theorem Laid.pos {h : Shd} {ts : List Tx} {fs : List (List UInt8)} {w : Wtr} (H : Laid h ts fs w) : ∀ x ∈ fs, 1 ≤ x.length := by
  induction H with
  | nil => intro x hx; cases hx
  | snoc H hp ih =>
    intro x hx
    rcases List.mem_append.1 hx with hx | hx
    · exact ih x hx
    · rw [List.mem_singleton.1 hx]
      rcases Wtr.put_two H.inv.ok H.inv.r _ with ⟨e, he, p1⟩ | ⟨hc, ho, hs, p, f', x', p1, p2, p3, p4, p5, p6, p7, p8⟩
      · rw [p1] at hp; simp only [Prod.mk.injEq] at hp; exact absurd hp.1.2 he
      · rw [p3] at hp
        simp only [Prod.mk.injEq, and_true] at hp
        obtain ⟨rfl, rfl⟩ := hp
        have := (wrapF_ok p2).2.2; omega
theorem Laid.cut {h : Shd} (hc : segChk h = 0) {hd : List UInt8} (hh : wrapF (headB h) = (hd, 0)) {ts : List Tx} {fs : List (List UInt8)} {w : Wtr} (H : Laid h ts fs w) {m part : Nat} (hm : m ≤ fs.length)
    (h1 : hd.length + (fs.take m).flatten.length ≤ part) (h2 : ∀ f, fs[m]? = some f → part < hd.length + (fs.take m).flatten.length + f.length) (h3 : part ≤ hd.length + fs.flatten.length) :
    ∃ e, segRead ((hd ++ fs.flatten).take part) = (h, ts.take m, hd.length + (fs.take m).flatten.length, e) ∧ (e = 0 ↔ hd.length + (fs.take m).flatten.length = part) ∧ (e = 0 ∨ e = 2) := by
  obtain ⟨w', H'⟩ := H.pre m (by rw [← H.inv.len]; exact hm)
  obtain ⟨rest, hb, hrl, hr⟩ : ∃ rest, (hd ++ fs.flatten).take part = hd ++ ((fs.take m).flatten ++ rest) ∧ hd.length + (fs.take m).flatten.length + rest.length = part ∧ (rest = [] ∨ nextF rest = ([], 0, 2)) := by
    by_cases hf : m < fs.length
    · obtain ⟨f, hg0⟩ : ∃ f, fs[m] = f := ⟨_, rfl⟩
      have hg : fs[m]? = some f := by rw [← hg0]; exact List.getElem?_eq_getElem hf
      have h2 := h2 _ hg
      have e : fs.flatten = (fs.take m).flatten ++ (f ++ (fs.drop (m + 1)).flatten) := by
        conv => lhs; rw [← List.take_append_drop m fs, List.drop_eq_getElem_cons hf, hg0]
        simp
      refine ⟨f.take (part - hd.length - (fs.take m).flatten.length), ?_, by rw [List.length_take]; omega, .inr ?_⟩
      · rw [e, List.take_append, List.take_of_length_le (by omega), List.take_append, List.take_of_length_le (by omega), List.take_append_of_le_length (by omega)]
      · obtain ⟨v, Hv⟩ := H.pre (m + 1) (by rw [← H.inv.len]; omega)
        rw [List.take_succ_eq_append_getElem hf] at Hv
        have hl := H.inv.len
        rw [List.take_succ_eq_append_getElem (by omega)] at Hv
        generalize hA : ts.take m ++ [ts[m]] = A at Hv
        generalize hB : fs.take m ++ [fs[m]] = B at Hv
        cases Hv with
        | nil => have := congrArg List.length hB; simp only [List.length_append, List.length_cons, List.length_nil] at this; omega
        | snoc G hp =>
          have hB := List.append_inj_right' hB rfl
          simp only [List.cons.injEq, and_true] at hB
          rw [hg0] at hB
          subst hB
          rcases Wtr.put_two G.inv.ok G.inv.r _ with ⟨e, he, p1⟩ | ⟨hc, ho, hs, p, f', x', p1, p2, p3, p4, p5, p6, p7, p8⟩
          · rw [p1] at hp; simp only [Prod.mk.injEq] at hp; exact absurd hp.1.2 he
          · rw [p3] at hp
            simp only [Prod.mk.injEq, and_true] at hp
            obtain ⟨rfl, rfl⟩ := hp
            exact nextF_short p2 (by omega)
    · have hm2 : m = fs.length := by omega
      subst hm2
      rw [List.take_length] at h1 ⊢
      exact ⟨[], by rw [List.append_nil, List.take_of_length_le (by rw [List.length_append]; omega)], by simp only [List.length_nil]; omega, .inl rfl⟩
  have hn := nextF_frame hh ((fs.take m).flatten ++ rest)
  have hfl := (H'.inv).fl
  have rd := H'.read hd rest ((hd ++ ((fs.take m).flatten ++ rest)).length + 1 - (ts.take m).length)
  have hlt : (ts.take m).length ≤ (hd ++ ((fs.take m).flatten ++ rest)).length := by
    have hl2 := H'.inv.len
    have : ∀ g : List (List UInt8), (∀ x ∈ g, 1 ≤ x.length) → g.length ≤ g.flatten.length := by
      intro g
      induction g with
      | nil => intro _; simp
      | cons a g ih => intro hx; have := ih (fun x h => hx x (by simp [h])); have := hx a (by simp); rw [List.flatten_cons, List.length_append, List.length_cons]; omega
    have hx : ∀ x ∈ fs.take m, 1 ≤ x.length := H'.pos
    have := this _ hx
    simp only [List.length_append]; omega
  rw [show (hd ++ ((fs.take m).flatten ++ rest)).length + 1 - (ts.take m).length + (ts.take m).length = (hd ++ ((fs.take m).flatten ++ rest)).length + 1 by omega] at rd
  rw [hb]
  have he : ∃ e, segGo (hd ++ ((fs.take m).flatten ++ rest)) h ((hd ++ ((fs.take m).flatten ++ rest)).length + 1) hd.length Cod.new [] = (ts.take m, hd.length + (fs.take m).flatten.length, e) ∧ (e = 0 ↔ rest = []) ∧ (e = 0 ∨ e = 2) := by
    rw [rd]
    rcases hr with rfl | hr
    · exact ⟨0, segGo_end (by simp), by simp, .inl rfl⟩
    · by_cases h0 : rest = []
      · subst h0; exact ⟨0, segGo_end (by simp), by simp, .inl rfl⟩
      · have hp : 0 < rest.length := List.length_pos_iff.2 h0
        have hdr : (hd ++ ((fs.take m).flatten ++ rest)).drop (hd.length + (fs.take m).flatten.length) = rest := by
          rw [← List.append_assoc, ← List.length_append, List.drop_left]
        rw [show (hd ++ ((fs.take m).flatten ++ rest)).length + 1 - (ts.take m).length = (hd ++ ((fs.take m).flatten ++ rest)).length - (ts.take m).length + 1 by omega]
        exact ⟨2, segGo_err (by simp only [List.length_append]; omega) (by rw [hdr]; exact hr) (by decide), by simp [h0], .inr rfl⟩
  obtain ⟨e, e1, e2, e3⟩ := he
  refine ⟨e, ?_, ?_, e3⟩
  · unfold segRead
    rw [hn]
    dsimp only
    rw [if_neg (by simp), head_back hc]
    dsimp only
    rw [if_neg (by simp), e1]
  · rw [e2]
    constructor
    · intro h0; rw [h0] at hrl; simpa using hrl
    · intro h0; exact List.length_eq_zero_iff.1 (by omega)
theorem goesGo_app : ∀ (l : List Tx) (w : Wtr) (t : Tx), goesGo w (l ++ [t]) = (goesGo w l).bind fun w' => goesGo w' [t]
  | [], w, t => rfl
  | u :: l, w, t => by
    show (if (w.put u).1.2 ≠ 0 then none else goesGo (w.put u).2 (l ++ [t])) = _
    conv => rhs; unfold goesGo
    split
    · rfl
    · exact goesGo_app l _ t
theorem Laid.goes {h : Shd} {ts : List Tx} {fs : List (List UInt8)} {w : Wtr} (H : Laid h ts fs w) : goesGo (Wtr.new h) ts = some w := by
  induction H with
  | nil => rfl
  | snoc H hp ih => rw [goesGo_app, ih]; show (if _ then _ else _) = _; rw [hp]; rfl
end Go.Proofs.YtgfnpcmehnjopaaDoor
end
section
namespace Go.Proofs.YtgfnpcmehnjopaaDoor
section
open Go Go.RowKit
set_option linter.unusedVariables false
set_option linter.unusedSimpArgs false
variable {K : Nat → Obj → Prop}
set_option maxRecDepth 100000 in
theorem wrap_s (hK : KT K) (p : List UInt8) (hl : p.length ≤ 100000000) (h : List Ho) : Sp Tryd.prog K 23 [.sl 1 (bs p)] h fun u hh => u = byV (wrapF p) ∧ hh = h := by
  refine Sp.pure_ (R := fun u hh => Wk [u] [byV (wrapF p)]) ?_ (fun _ => rfl) (fun _ => rfl) (fun v h e => e) h
  have z0 : (0 : Int) ≤ (p.length : Int) := by omega
  have z1 : (p.length : Int) < 18446744073709551616 := by omega
  have hv := vput_len (n := p.length) (by omega)
  have q0 : IntKind.u64.wrap (p.length : Int) = (p.length : Int) := wr_u64 (by omega) (by omega)
  have hs : (vput p.length ++ p).length ≤ 1000000000 := by simp; omega
  unfold wrapF
  by_cases h8 : 8192 < p.length
  · have q1 : ((8192 : Int) < (p.length : Int)) = True := eq_true (by omega)
    rw [if_pos h8]
    refine Sp.of_bodyD Tryd.func23 rfl ?_
    intro Q hQ
    simp only [List.replicate, List.length_cons, List.length_nil, Tryd.ntmps23, Nat.reduceAdd, Nat.reduceSub, List.cons_append, List.nil_append, go_sem]
    have hz : True := trivial
    have hy := yieldedV_eq
    have hL := And.intro @q0 (And.intro @q1 (@bs_nil))
    repeat' (first | (refine WPV.seqK ?_; intro N hN) | refine gA ?_ | (refine gR (M := noM) ?_; intro N hN ops hy) | (refine gD (M := noM) ?_; intro N hN; have hy := yieldedV_eq) | (refine WPV.condK ?_; intro A hA B hB) | (refine here ?_; refine sM ?_) | refine Both.mk ?_ ?_ | ((with_reducible refine CallO.gd 62 ?_); refine CallO.frA [] Tryd.call62 (vputO_s z0 z1) ?_) | ((with_reducible refine CallO.gd 36 ?_); refine CallO.toA Tryd.call36 (seal_s hK (vput p.length ++ p) hs _) ?_) | ((with_reducible refine CallP.gd 36 ?_); refine CallP.toA Tryd.call36 (seal_s hK (vput p.length ++ p) hs _) ?_) | (refine hN _ ?_; try clear hN N; try clear hy ops) | (refine hA ?_; clear hA A hB B; try simp only [hz]) | (refine hB ?_; clear hA A hB B; try simp only [hz]) | (refine gG ?_ ?_ <;> (intro hz; have h := nm hz; try (exfalso; omega)) <;> (have hz := nz hz)) | ((first | rw [if_pos (show _ ∧ _ from ⟨by omega, by omega⟩)] | rw [if_pos (show _ ∧ _ from by simp only [List.length_append, List.length_cons, List.length_nil]; exact ⟨by omega, by omega⟩)]); refine sM ?_) | refine gT ?_ | (clear hN N))
    all_goals (apply And.right; refine hQ _ _ _ Desc.refl ?_ (Wk.tupC (Wk.null Wk.refl) Wk.nil))
    · (first | (simp only [go_sem, reduceCtorEq, Nat.reduceAdd, Nat.reduceSub, Nat.reduceMul, Nat.reduceLT, Nat.reduceLeDiff, Int.reduceLT, Int.reduceLE, Int.reduceEq, Int.reduceNe, Int.reduceAdd, Int.reduceSub, Int.reduceMul, Int.reduceToNat, Int.reduceNeg, Int.reducePow, Nat.reducePow, Nat.reduceEqDiff, Nat.reduceBEq, Int.reduceBEq, Int.reduceBNe, Int.reduceNegSucc, Tryd.results23]; done) | (simp only [go_sem, reduceCtorEq, Nat.reduceAdd, Nat.reduceSub, Nat.reduceMul, Nat.reduceLT, Nat.reduceLeDiff, Int.reduceLT, Int.reduceLE, Int.reduceEq, Int.reduceNe, Int.reduceAdd, Int.reduceSub, Int.reduceMul, Int.reduceToNat, Int.reduceNeg, Int.reducePow, Nat.reducePow, Nat.reduceEqDiff, Nat.reduceBEq, Int.reduceBEq, Int.reduceBNe, Int.reduceNegSucc, Tryd.results23]; rfl) | rfl)
  · have q1 : ((8192 : Int) < (p.length : Int)) = False := eq_false (by omega)
    rw [if_neg h8]
    refine Sp.of_bodyD Tryd.func23 rfl ?_
    intro Q hQ
    simp only [List.replicate, List.length_cons, List.length_nil, Tryd.ntmps23, Nat.reduceAdd, Nat.reduceSub, List.cons_append, List.nil_append, go_sem]
    have hz : True := trivial
    have hy := yieldedV_eq
    have hL := And.intro @q0 (And.intro @q1 (@bs_nil))
    repeat' (first | (refine WPV.seqK ?_; intro N hN) | refine gA ?_ | (refine gR (M := noM) ?_; intro N hN ops hy) | (refine gD (M := noM) ?_; intro N hN; have hy := yieldedV_eq) | (refine WPV.condK ?_; intro A hA B hB) | (refine here ?_; refine sM ?_) | refine Both.mk ?_ ?_ | ((with_reducible refine CallO.gd 62 ?_); refine CallO.frA [] Tryd.call62 (vputO_s z0 z1) ?_) | ((with_reducible refine CallO.gd 36 ?_); refine CallO.toA Tryd.call36 (seal_s hK (vput p.length ++ p) hs _) ?_) | ((with_reducible refine CallP.gd 36 ?_); refine CallP.toA Tryd.call36 (seal_s hK (vput p.length ++ p) hs _) ?_) | (refine hN _ ?_; try clear hN N; try clear hy ops) | (refine hA ?_; clear hA A hB B; try simp only [hz]) | (refine hB ?_; clear hA A hB B; try simp only [hz]) | (refine gG ?_ ?_ <;> (intro hz; have h := nm hz; try (exfalso; omega)) <;> (have hz := nz hz)) | ((first | rw [if_pos (show _ ∧ _ from ⟨by omega, by omega⟩)] | rw [if_pos (show _ ∧ _ from by simp only [List.length_append, List.length_cons, List.length_nil]; exact ⟨by omega, by omega⟩)]); refine sM ?_) | refine gT ?_ | (clear hN N))
    all_goals (apply And.right; refine hQ _ _ _ Desc.refl ?_ (Wk.refl))
    · (first | (simp only [go_sem, reduceCtorEq, Nat.reduceAdd, Nat.reduceSub, Nat.reduceMul, Nat.reduceLT, Nat.reduceLeDiff, Int.reduceLT, Int.reduceLE, Int.reduceEq, Int.reduceNe, Int.reduceAdd, Int.reduceSub, Int.reduceMul, Int.reduceToNat, Int.reduceNeg, Int.reducePow, Nat.reducePow, Nat.reduceEqDiff, Nat.reduceBEq, Int.reduceBEq, Int.reduceBNe, Int.reduceNegSucc, Tryd.results23]; done) | (simp only [go_sem, reduceCtorEq, Nat.reduceAdd, Nat.reduceSub, Nat.reduceMul, Nat.reduceLT, Nat.reduceLeDiff, Int.reduceLT, Int.reduceLE, Int.reduceEq, Int.reduceNe, Int.reduceAdd, Int.reduceSub, Int.reduceMul, Int.reduceToNat, Int.reduceNeg, Int.reducePow, Nat.reducePow, Nat.reduceEqDiff, Nat.reduceBEq, Int.reduceBEq, Int.reduceBNe, Int.reduceNegSucc, Tryd.results23]; rfl) | rfl)
abbrev nxV (r : List UInt8 × Nat × Int) : V := .tup [.sl 1 (bs r.1), .sc (.int .i64 (r.2.1 : Int)), .sc (.int .i64 r.2.2)]
theorem nx0_wk (e : Int) : Wk [.tup [.sc (.slice none 0 0), .sc (.int .i64 0), .sc (.int .i64 e)]] [nxV ([], 0, e)] := Wk.tupC (Wk.null Wk.refl) Wk.nil
set_option maxRecDepth 100000 in
set_option maxHeartbeats 1000000 in
theorem next_s (hK : KT K) (b : List UInt8) (hl : b.length ≤ 1000000000) (h : List Ho) : Sp Tryd.prog K 68 [.sl 1 (bs b)] h fun u hh => u = nxV (nextF b) ∧ hh = h := by
  refine Sp.pure_ (R := fun u hh => Wk [u] [nxV (nextF b)]) ?_ (fun _ => rfl) (fun _ => rfl) (fun v h e => e) h
  obtain ⟨n, u, e, ht⟩ : ∃ n u e, tk b = (n, u, e) := ⟨_, _, _, rfl⟩
  have q1 : True := trivial
  have q2 : True := trivial
  have q3 : True := trivial
  have q4 : True := trivial
  have q5 : True := trivial
  have q6 : True := trivial
  have q7 : True := trivial
  have q8 : True := trivial
  have q9 : True := trivial
  have ho : Sp Tryd.prog K 76 [.sl 1 (bs [])] [] fun u hh => u = .tup [.sl 1 (bs (openF []).1), .sc (.int .i64 (openF []).2)] ∧ hh = [] := open_s hK [] (by simp) []
  have q : List UInt8 := []
  have hq : True := trivial
  unfold nextF
  rw [ht]
  dsimp only
  by_cases he : e ≠ 0
  · have q0 : (e != 0) = true := by simpa using he
    rw [if_pos he]
    refine Sp.of_bodyD Tryd.func68 rfl ?_
    intro Q hQ
    simp only [List.replicate, List.length_cons, List.length_nil, Tryd.ntmps68, Nat.reduceAdd, Nat.reduceSub, List.cons_append, List.nil_append, go_sem]
    have hz : True := trivial
    have hy := yieldedV_eq
    have hL := And.intro @q0 (And.intro @q1 (And.intro @q2 (And.intro @q3 (And.intro @q4 (And.intro @q5 (And.intro @q6 (And.intro @q7 (And.intro @q8 (@q9)))))))))
    repeat' (first | (refine WPV.seqK ?_; intro N hN) | refine gA ?_ | (refine gR (M := noM) ?_; intro N hN ops hy) | (refine gD (M := noM) ?_; intro N hN; have hy := yieldedV_eq) | (refine WPV.condK ?_; intro A hA B hB) | (refine here ?_; refine sM ?_) | refine Both.mk ?_ ?_ | ((with_reducible refine CallO.gd 77 ?_); refine CallO.toA Tryd.call77 (vtake_s ht hl _) ?_) | ((with_reducible refine CallO.gd 76 ?_); refine CallO.toA Tryd.call76 (ho) ?_) | ((with_reducible refine CallO.gd 75 ?_); refine CallO.toA Tryd.call75 (bclone_s (q.drop u) hq _) ?_) | ((with_reducible refine CallP.gd 77 ?_); refine CallP.toA Tryd.call77 (vtake_s ht hl _) ?_) | ((with_reducible refine CallP.gd 76 ?_); refine CallP.toA Tryd.call76 (ho) ?_) | ((with_reducible refine CallP.gd 75 ?_); refine CallP.toA Tryd.call75 (bclone_s (q.drop u) hq _) ?_) | (refine hN _ ?_; try clear hN N; try clear hy ops) | (refine hA ?_; clear hA A hB B; try simp only [hz]) | (refine hB ?_; clear hA A hB B; try simp only [hz]) | (refine gG ?_ ?_ <;> (intro hz; have h := nm hz; try (exfalso; omega)) <;> (have hz := nz hz)) | ((first | rw [if_pos (show _ ∧ _ from ⟨by omega, by omega⟩)] | rw [if_pos (show _ ∧ _ from by simp only [List.length_append, List.length_cons, List.length_nil]; exact ⟨by omega, by omega⟩)]); refine sM ?_) | refine gT ?_ | (clear hN N))
    all_goals (apply And.right; refine hQ _ _ _ Desc.refl ?_ (nx0_wk _))
    · (first | (simp only [go_sem, reduceCtorEq, Nat.reduceAdd, Nat.reduceSub, Nat.reduceMul, Nat.reduceLT, Nat.reduceLeDiff, Int.reduceLT, Int.reduceLE, Int.reduceEq, Int.reduceNe, Int.reduceAdd, Int.reduceSub, Int.reduceMul, Int.reduceToNat, Int.reduceNeg, Int.reducePow, Nat.reducePow, Nat.reduceEqDiff, Nat.reduceBEq, Int.reduceBEq, Int.reduceBNe, Int.reduceNegSucc, Tryd.results68]; done) | (simp only [go_sem, reduceCtorEq, Nat.reduceAdd, Nat.reduceSub, Nat.reduceMul, Nat.reduceLT, Nat.reduceLeDiff, Int.reduceLT, Int.reduceLE, Int.reduceEq, Int.reduceNe, Int.reduceAdd, Int.reduceSub, Int.reduceMul, Int.reduceToNat, Int.reduceNeg, Int.reducePow, Nat.reducePow, Nat.reduceEqDiff, Nat.reduceBEq, Int.reduceBEq, Int.reduceBNe, Int.reduceNegSucc, Tryd.results68]; rfl) | rfl)
  rw [if_neg he]
  have he0 : e = 0 := Decidable.not_not.1 he
  subst he0
  have hok := tk_ok (l := b) (by rw [ht])
  rw [ht] at hok
  dsimp only at hok
  have q0 : ((0 : Int) != 0) = false := rfl
  by_cases hn : 8192 < n.toNat
  · have q1 : ((8192 : Int) < (n.toNat : Int)) = True := eq_true (by omega)
    rw [if_pos hn]
    refine Sp.of_bodyD Tryd.func68 rfl ?_
    intro Q hQ
    simp only [List.replicate, List.length_cons, List.length_nil, Tryd.ntmps68, Nat.reduceAdd, Nat.reduceSub, List.cons_append, List.nil_append, go_sem]
    have hz : True := trivial
    have hy := yieldedV_eq
    have hL := And.intro @q0 (And.intro @q1 (And.intro @q2 (And.intro @q3 (And.intro @q4 (And.intro @q5 (And.intro @q6 (And.intro @q7 (And.intro @q8 (@q9)))))))))
    repeat' (first | (refine WPV.seqK ?_; intro N hN) | refine gA ?_ | (refine gR (M := noM) ?_; intro N hN ops hy) | (refine gD (M := noM) ?_; intro N hN; have hy := yieldedV_eq) | (refine WPV.condK ?_; intro A hA B hB) | (refine here ?_; refine sM ?_) | refine Both.mk ?_ ?_ | ((with_reducible refine CallO.gd 77 ?_); refine CallO.toA Tryd.call77 (vtake_s ht hl _) ?_) | ((with_reducible refine CallO.gd 76 ?_); refine CallO.toA Tryd.call76 (ho) ?_) | ((with_reducible refine CallO.gd 75 ?_); refine CallO.toA Tryd.call75 (bclone_s (q.drop u) hq _) ?_) | ((with_reducible refine CallP.gd 77 ?_); refine CallP.toA Tryd.call77 (vtake_s ht hl _) ?_) | ((with_reducible refine CallP.gd 76 ?_); refine CallP.toA Tryd.call76 (ho) ?_) | ((with_reducible refine CallP.gd 75 ?_); refine CallP.toA Tryd.call75 (bclone_s (q.drop u) hq _) ?_) | (refine hN _ ?_; try clear hN N; try clear hy ops) | (refine hA ?_; clear hA A hB B; try simp only [hz]) | (refine hB ?_; clear hA A hB B; try simp only [hz]) | (refine gG ?_ ?_ <;> (intro hz; have h := nm hz; try (exfalso; omega)) <;> (have hz := nz hz)) | ((first | rw [if_pos (show _ ∧ _ from ⟨by omega, by omega⟩)] | rw [if_pos (show _ ∧ _ from by simp only [List.length_append, List.length_cons, List.length_nil]; exact ⟨by omega, by omega⟩)]); refine sM ?_) | refine gT ?_ | (clear hN N))
    all_goals (apply And.right; refine hQ _ _ _ Desc.refl ?_ (nx0_wk _))
    · (first | (simp only [go_sem, reduceCtorEq, Nat.reduceAdd, Nat.reduceSub, Nat.reduceMul, Nat.reduceLT, Nat.reduceLeDiff, Int.reduceLT, Int.reduceLE, Int.reduceEq, Int.reduceNe, Int.reduceAdd, Int.reduceSub, Int.reduceMul, Int.reduceToNat, Int.reduceNeg, Int.reducePow, Nat.reducePow, Nat.reduceEqDiff, Nat.reduceBEq, Int.reduceBEq, Int.reduceBNe, Int.reduceNegSucc, Tryd.results68]; done) | (simp only [go_sem, reduceCtorEq, Nat.reduceAdd, Nat.reduceSub, Nat.reduceMul, Nat.reduceLT, Nat.reduceLeDiff, Int.reduceLT, Int.reduceLE, Int.reduceEq, Int.reduceNe, Int.reduceAdd, Int.reduceSub, Int.reduceMul, Int.reduceToNat, Int.reduceNeg, Int.reducePow, Nat.reducePow, Nat.reduceEqDiff, Nat.reduceBEq, Int.reduceBEq, Int.reduceBNe, Int.reduceNegSucc, Tryd.results68]; rfl) | rfl)
  rw [if_neg hn]
  have q1 : ((8192 : Int) < (n.toNat : Int)) = False := eq_false (by omega)
  have q2 : IntKind.i64.wrap (n.toNat : Int) = (n.toNat : Int) := wr_i64 (by omega) (by omega)
  have q3 : IntKind.i64.wrap ((u : Int) + (n.toNat : Int)) = ((u + n.toNat : Nat) : Int) := by rw [wr_i64 (by omega) (by omega)]; rfl
  have q4 : IntKind.i64.wrap (((u + n.toNat : Nat) : Int) + 4) = ((u + n.toNat + 4 : Nat) : Int) := by rw [wr_i64 (by omega) (by omega)]; rfl
  generalize hm : u + n.toNat + 4 = m at q4 ⊢
  by_cases hb : b.length < m
  · have q5 : ((b.length : Int) < (m : Int)) = True := eq_true (by omega)
    rw [if_pos hb]
    refine Sp.of_bodyD Tryd.func68 rfl ?_
    intro Q hQ
    simp only [List.replicate, List.length_cons, List.length_nil, Tryd.ntmps68, Nat.reduceAdd, Nat.reduceSub, List.cons_append, List.nil_append, go_sem]
    have hz : True := trivial
    have hy := yieldedV_eq
    have hL := And.intro @q0 (And.intro @q1 (And.intro @q2 (And.intro @q3 (And.intro @q4 (And.intro @q5 (And.intro @q6 (And.intro @q7 (And.intro @q8 (@q9)))))))))
    repeat' (first | (refine WPV.seqK ?_; intro N hN) | refine gA ?_ | (refine gR (M := noM) ?_; intro N hN ops hy) | (refine gD (M := noM) ?_; intro N hN; have hy := yieldedV_eq) | (refine WPV.condK ?_; intro A hA B hB) | (refine here ?_; refine sM ?_) | refine Both.mk ?_ ?_ | ((with_reducible refine CallO.gd 77 ?_); refine CallO.toA Tryd.call77 (vtake_s ht hl _) ?_) | ((with_reducible refine CallO.gd 76 ?_); refine CallO.toA Tryd.call76 (ho) ?_) | ((with_reducible refine CallO.gd 75 ?_); refine CallO.toA Tryd.call75 (bclone_s (q.drop u) hq _) ?_) | ((with_reducible refine CallP.gd 77 ?_); refine CallP.toA Tryd.call77 (vtake_s ht hl _) ?_) | ((with_reducible refine CallP.gd 76 ?_); refine CallP.toA Tryd.call76 (ho) ?_) | ((with_reducible refine CallP.gd 75 ?_); refine CallP.toA Tryd.call75 (bclone_s (q.drop u) hq _) ?_) | (refine hN _ ?_; try clear hN N; try clear hy ops) | (refine hA ?_; clear hA A hB B; try simp only [hz]) | (refine hB ?_; clear hA A hB B; try simp only [hz]) | (refine gG ?_ ?_ <;> (intro hz; have h := nm hz; try (exfalso; omega)) <;> (have hz := nz hz)) | ((first | rw [if_pos (show _ ∧ _ from ⟨by omega, by omega⟩)] | rw [if_pos (show _ ∧ _ from by simp only [List.length_append, List.length_cons, List.length_nil]; exact ⟨by omega, by omega⟩)]); refine sM ?_) | refine gT ?_ | (clear hN N))
    all_goals (apply And.right; refine hQ _ _ _ Desc.refl ?_ (nx0_wk _))
    · (first | (simp only [go_sem, reduceCtorEq, Nat.reduceAdd, Nat.reduceSub, Nat.reduceMul, Nat.reduceLT, Nat.reduceLeDiff, Int.reduceLT, Int.reduceLE, Int.reduceEq, Int.reduceNe, Int.reduceAdd, Int.reduceSub, Int.reduceMul, Int.reduceToNat, Int.reduceNeg, Int.reducePow, Nat.reducePow, Nat.reduceEqDiff, Nat.reduceBEq, Int.reduceBEq, Int.reduceBNe, Int.reduceNegSucc, Tryd.results68]; done) | (simp only [go_sem, reduceCtorEq, Nat.reduceAdd, Nat.reduceSub, Nat.reduceMul, Nat.reduceLT, Nat.reduceLeDiff, Int.reduceLT, Int.reduceLE, Int.reduceEq, Int.reduceNe, Int.reduceAdd, Int.reduceSub, Int.reduceMul, Int.reduceToNat, Int.reduceNeg, Int.reducePow, Nat.reducePow, Nat.reduceEqDiff, Nat.reduceBEq, Int.reduceBEq, Int.reduceBNe, Int.reduceNegSucc, Tryd.results68]; rfl) | rfl)
  rw [if_neg hb]
  have q5 : ((b.length : Int) < (m : Int)) = False := eq_false (by omega)
  have q6 : ((m : Int) ≤ (b.length : Int)) = True := eq_true (by omega)
  clear ho
  have ho := open_s hK (b.take m) (by simp; omega) []
  obtain ⟨q, f, hqf⟩ : ∃ q f, openF (b.take m) = (q, f) := ⟨_, _, rfl⟩
  rw [hqf] at ho ⊢
  dsimp only at ho ⊢
  by_cases hf : f ≠ 0
  · have q7 : (f != 0) = true := by simpa using hf
    rw [if_pos hf]
    refine Sp.of_bodyD Tryd.func68 rfl ?_
    intro Q hQ
    simp only [List.replicate, List.length_cons, List.length_nil, Tryd.ntmps68, Nat.reduceAdd, Nat.reduceSub, List.cons_append, List.nil_append, go_sem]
    have hz : True := trivial
    have hy := yieldedV_eq
    have hL := And.intro @q0 (And.intro @q1 (And.intro @q2 (And.intro @q3 (And.intro @q4 (And.intro @q5 (And.intro @q6 (And.intro @q7 (And.intro @q8 (@q9)))))))))
    repeat' (first | (refine WPV.seqK ?_; intro N hN) | refine gA ?_ | (refine gR (M := noM) ?_; intro N hN ops hy) | (refine gD (M := noM) ?_; intro N hN; have hy := yieldedV_eq) | (refine WPV.condK ?_; intro A hA B hB) | (refine here ?_; refine sM ?_) | refine Both.mk ?_ ?_ | ((with_reducible refine CallO.gd 77 ?_); refine CallO.toA Tryd.call77 (vtake_s ht hl _) ?_) | ((with_reducible refine CallO.gd 76 ?_); refine CallO.toA Tryd.call76 (ho) ?_) | ((with_reducible refine CallO.gd 75 ?_); refine CallO.toA Tryd.call75 (bclone_s (q.drop u) hq _) ?_) | ((with_reducible refine CallP.gd 77 ?_); refine CallP.toA Tryd.call77 (vtake_s ht hl _) ?_) | ((with_reducible refine CallP.gd 76 ?_); refine CallP.toA Tryd.call76 (ho) ?_) | ((with_reducible refine CallP.gd 75 ?_); refine CallP.toA Tryd.call75 (bclone_s (q.drop u) hq _) ?_) | (refine hN _ ?_; try clear hN N; try clear hy ops) | (refine hA ?_; clear hA A hB B; try simp only [hz]) | (refine hB ?_; clear hA A hB B; try simp only [hz]) | (refine gG ?_ ?_ <;> (intro hz; have h := nm hz; try (exfalso; omega)) <;> (have hz := nz hz)) | ((first | rw [if_pos (show _ ∧ _ from ⟨by omega, by omega⟩)] | rw [if_pos (show _ ∧ _ from by simp only [List.length_append, List.length_cons, List.length_nil]; exact ⟨by omega, by omega⟩)]); refine sM ?_) | refine gT ?_ | (clear hN N))
    all_goals (apply And.right; refine hQ _ _ _ Desc.refl ?_ (nx0_wk _))
    · (first | (simp only [go_sem, reduceCtorEq, Nat.reduceAdd, Nat.reduceSub, Nat.reduceMul, Nat.reduceLT, Nat.reduceLeDiff, Int.reduceLT, Int.reduceLE, Int.reduceEq, Int.reduceNe, Int.reduceAdd, Int.reduceSub, Int.reduceMul, Int.reduceToNat, Int.reduceNeg, Int.reducePow, Nat.reducePow, Nat.reduceEqDiff, Nat.reduceBEq, Int.reduceBEq, Int.reduceBNe, Int.reduceNegSucc, Tryd.results68]; done) | (simp only [go_sem, reduceCtorEq, Nat.reduceAdd, Nat.reduceSub, Nat.reduceMul, Nat.reduceLT, Nat.reduceLeDiff, Int.reduceLT, Int.reduceLE, Int.reduceEq, Int.reduceNe, Int.reduceAdd, Int.reduceSub, Int.reduceMul, Int.reduceToNat, Int.reduceNeg, Int.reducePow, Nat.reducePow, Nat.reduceEqDiff, Nat.reduceBEq, Int.reduceBEq, Int.reduceBNe, Int.reduceNegSucc, Tryd.results68]; rfl) | rfl)
  rw [if_neg hf]
  have hf0 : f = 0 := Decidable.not_not.1 hf
  subst hf0
  have q7 : ((0 : Int) != 0) = false := rfl
  have hoo := openF_ok (b := b.take m) (by rw [hqf])
  rw [hqf] at hoo
  dsimp only at hoo
  have hql : q.length = m - 4 := by rw [hoo.2.1, List.length_take, List.length_take]; omega
  have hq : (q.drop u).length ≤ 1000000000 := by simp; omega
  have q8 : ((u : Int) ≤ (q.length : Int)) = True := eq_true (by omega)
  refine Sp.of_bodyD Tryd.func68 rfl ?_
  intro Q hQ
  simp only [List.replicate, List.length_cons, List.length_nil, Tryd.ntmps68, Nat.reduceAdd, Nat.reduceSub, List.cons_append, List.nil_append, go_sem]
  have hz : True := trivial
  have hy := yieldedV_eq
  have hL := And.intro @q0 (And.intro @q1 (And.intro @q2 (And.intro @q3 (And.intro @q4 (And.intro @q5 (And.intro @q6 (And.intro @q7 (And.intro @q8 (@q9)))))))))
  repeat' (first | (refine WPV.seqK ?_; intro N hN) | refine gA ?_ | (refine gR (M := noM) ?_; intro N hN ops hy) | (refine gD (M := noM) ?_; intro N hN; have hy := yieldedV_eq) | (refine WPV.condK ?_; intro A hA B hB) | (refine here ?_; refine sM ?_) | refine Both.mk ?_ ?_ | ((with_reducible refine CallO.gd 77 ?_); refine CallO.toA Tryd.call77 (vtake_s ht hl _) ?_) | ((with_reducible refine CallO.gd 76 ?_); refine CallO.toA Tryd.call76 (ho) ?_) | ((with_reducible refine CallO.gd 75 ?_); refine CallO.toA Tryd.call75 (bclone_s (q.drop u) hq _) ?_) | ((with_reducible refine CallP.gd 77 ?_); refine CallP.toA Tryd.call77 (vtake_s ht hl _) ?_) | ((with_reducible refine CallP.gd 76 ?_); refine CallP.toA Tryd.call76 (ho) ?_) | ((with_reducible refine CallP.gd 75 ?_); refine CallP.toA Tryd.call75 (bclone_s (q.drop u) hq _) ?_) | (refine hN _ ?_; try clear hN N; try clear hy ops) | (refine hA ?_; clear hA A hB B; try simp only [hz]) | (refine hB ?_; clear hA A hB B; try simp only [hz]) | (refine gG ?_ ?_ <;> (intro hz; have h := nm hz; try (exfalso; omega)) <;> (have hz := nz hz)) | ((first | rw [if_pos (show _ ∧ _ from ⟨by omega, by omega⟩)] | rw [if_pos (show _ ∧ _ from by simp only [List.length_append, List.length_cons, List.length_nil]; exact ⟨by omega, by omega⟩)]); refine sM ?_) | refine gT ?_ | (clear hN N))
  all_goals (apply And.right; refine hQ _ _ _ Desc.refl ?_ Wk.refl)
  · (first | (simp only [go_sem, reduceCtorEq, Nat.reduceAdd, Nat.reduceSub, Nat.reduceMul, Nat.reduceLT, Nat.reduceLeDiff, Int.reduceLT, Int.reduceLE, Int.reduceEq, Int.reduceNe, Int.reduceAdd, Int.reduceSub, Int.reduceMul, Int.reduceToNat, Int.reduceNeg, Int.reducePow, Nat.reducePow, Nat.reduceEqDiff, Nat.reduceBEq, Int.reduceBEq, Int.reduceBNe, Int.reduceNegSucc, Tryd.results68]; done) | (simp only [go_sem, reduceCtorEq, Nat.reduceAdd, Nat.reduceSub, Nat.reduceMul, Nat.reduceLT, Nat.reduceLeDiff, Int.reduceLT, Int.reduceLE, Int.reduceEq, Int.reduceNe, Int.reduceAdd, Int.reduceSub, Int.reduceMul, Int.reduceToNat, Int.reduceNeg, Int.reducePow, Nat.reducePow, Nat.reduceEqDiff, Nat.reduceBEq, Int.reduceBEq, Int.reduceBNe, Int.reduceNegSucc, Tryd.results68]; rfl) | rfl)
end
section
open Go Go.RowKit
set_option linter.unusedVariables false
set_option linter.unusedSimpArgs false
variable {K : Nat → Obj → Prop}
def sbx (b : List UInt8) (out : List (List UInt8)) (used : Nat) : List Ho := [.cells [.sc (.int .i64 (used : Int))], .cells [.sl 1 (bs b)], .cells [.own 1 (rs out) 3], .tail]
abbrev scV (r : List (List UInt8) × Nat × Int) : V := .tup [.sl 1 (rs r.1), .sc (.int .i64 (r.2.1 : Int)), .sc (.int .i64 r.2.2)]
structure ScJ (b : List UInt8) (out : List (List UInt8)) (used : Nat) : Prop where
  le : used ≤ b.length
  ol : out.length ≤ used
  eq : ∃ k, b.length < used + k ∧ scanF b = scanN b k out used
end
end Go.Proofs.YtgfnpcmehnjopaaDoor
end
section
namespace Go.Proofs.YtgfnpcmehnjopaaDoor
open Go Go.RowKit
set_option linter.unusedVariables false
set_option linter.unusedSimpArgs false
variable {P : Program} {K : Nat → Obj → Prop} {n0 : Nat} {M : Oper → TypeId → Bool}
def inB (i : Nat) : List Nat → Bool
  | [] => false
  | j :: r => if i = j then true else inB i r
theorem inB_nil (i : Nat) : inB i [] = false := rfl
theorem inB_cons (i j : Nat) (r : List Nat) : inB i (j :: r) = if i = j then true else inB i r := rfl
theorem inB_mem (i : Nat) : ∀ r : List Nat, inB i r = r.contains i
  | [] => rfl
  | j :: r => by
    unfold inB
    rw [inB_mem i r, List.contains_cons]
    by_cases h : i = j
    · subst h; simp
    · simp [h]
theorem thinW_z (ro : List Nat) : thinW ro [] = [] := rfl
theorem thinW_c (ro : List Nat) (i : Nat) (o : Ho) (l : List (Nat × Ho)) : thinW ro ((i, o) :: l) = if inB i ro = true then thinW ro l else (i, o) :: thinW ro l := by
  rw [inB_mem]
  by_cases h : ro.contains i = true
  · rw [if_pos h]; simp only [thinW, List.filter_cons]; rw [if_neg (by rw [h]; simp)]
  · rw [if_neg h]; simp only [thinW, List.filter_cons]; rw [if_pos (by simpa using h)]
def roB (ro : List Nat) (h : List Ho) : List (Nat × Ho) → Prop
  | [] => True
  | (i, o) :: l => (if inB i ro = true then h[i]? = some o else True) ∧ roB ro h l
attribute [go_sem] thinW_z thinW_c inB_nil inB_cons
section
variable {ops : Array Oper} {N : Sv → Prop} {l : List Oper} {v : V} {f : FuncId} {vs vs' : List V} {hl hl' h : List Ho} {tm : List V} {dst : Option Tmp} {ids : List (List Nat × List Nat)}
end
theorem WPV.drawG {id : Nat} {L : List Oper} {Q : Exit → Sv → Prop} {st : Sv} (hm : P.follows .mixedOrders = true) (hR : okR L.toArray = true)
    (h : ∀ N : Sv → Prop, (∀ st, Q .normal st → N st) → ∀ ops : Array Oper, (∀ tm j, yieldedV ops tm j = yieldL (L.map (·.dst)) tm j) → (∀ ids, okOrd L.toArray ids = true → okOrd ops ids = true) → drawV P M K ops N L st.tm st.h []) : WPV P K n0 (.region id L.toArray true) Q st :=
  .drawK (M := M) hm hR fun N hN => h N hN L.toArray (yieldL_eq L) fun _ h => h
theorem gDG {id : Nat} {L L2 : List Oper} {l2 : List (Option Tmp)} {Q : Exit → Sv → Prop} {st : Sv}
    (h : ∀ N : Sv → Prop, (∀ st, Q .normal st → N st) → ∀ ops : Array Oper, (∀ tm j, yieldedV ops tm j = yieldL l2 tm j) → (∀ ids, okOrd L.toArray ids = true → okOrd ops ids = true) → drawV P M K ops N L2 st.tm st.h [])
    (e1 : L = L2 := by first | (simp only [List.append]; rfl) | rfl) (e2 : L2.map (·.dst) = l2 := by first | (simp only [List.map_cons, List.map_nil]; rfl) | rfl) (hm : P.follows .mixedOrders = true := by kernel_rfl) (hR : okR L.toArray = true := by kernel_rfl) : WPV P K n0 (.region id L.toArray true) Q st := by
  subst e1; subst e2; exact .drawG (M := M) hm hR h
def regC (i : Nat) : Code → Option Code
  | .region id ops b => if id = i then some (.region id ops b) else none
  | .seq x y => match regC i x with
    | some c => some c
    | none => regC i y
  | .cond _ x y => match regC i x with
    | some c => some c
    | none => regC i y
  | .block _ x => regC i x
  | .loop x => regC i x
  | .scope x => regC i x
  | _ => none
structure Hd (p : Prop) : Prop where
  out : p
theorem Wk.bl {a b : Bool} {vs vs' : List V} (h : a = b) (hs : Wk vs vs') : Wk (.sc (.bool a) :: vs) (.sc (.bool b) :: vs') := h ▸ Wk.same hs
end Go.Proofs.YtgfnpcmehnjopaaDoor
end
section
namespace Go.Proofs.YtgfnpcmehnjopaaDoor
open Go Go.RowKit
set_option linter.unusedVariables false
set_option linter.unusedSimpArgs false
variable {K : Nat → Obj → Prop}
abbrev shdV (h : Shd) : V := .agg [.sc (.int .i64 h.o), .sc (.int .i64 h.p), .sc (.int .i64 h.f)]
def Wtr.inn (w : Wtr) : List Ho := [.cells [.sc (.int .i64 w.o), .sc (.int .i64 w.n), .ptr 1 0], .cells [.ptr 2 0, .sc (.int .i64 w.c.c.x), .sc (.int .i64 w.c.c.y), .sc (.int .i64 w.c.c.z)], .cells [.hs true 1 3 0 w.c.d.ks.length, .mp 4, .sc (.int .i64 (w.c.d.e : Int))], .cells (kc w.c.d.ks), .map (pm w.c.d.c w.c.d.l)]
def Wtr.out (w : Wtr) : List Ho := [.cells [.sc (.int .i64 w.o), .sc (.int .i64 w.n), .ptr 1 0], .cells [.ptr 2 0, .sc (.int .i64 w.c.c.x), .sc (.int .i64 w.c.c.y), .sc (.int .i64 w.c.c.z)], .cells [.hs true 1 5 0 w.c.d.ks.length, .mp 6, .sc (.int .i64 (w.c.d.e : Int))], .dead, .dead, .cells (kc w.c.d.ks), .map (pm w.c.d.c w.c.d.l)]
attribute [go_sem] Wtr.inn Wtr.out
set_option maxRecDepth 100000 in
theorem segchk_s (h : Shd) (hp : List Ho) : Sp Tryd.prog K 63 [shdV h] hp fun u hh => u = .sc (.int .i64 (segChk h)) ∧ hh = hp := by
  refine Sp.lift (vs := [shdV h]) ?_ (fun _ => rfl) (fun _ => rfl) hp
  obtain ⟨o, p, f⟩ := h
  refine Sp.of_bodyE Tryd.func63 rfl ?_
  intro Q hQ
  simp only [List.replicate, List.length_cons, List.length_nil, Tryd.ntmps63, Nat.reduceAdd, Nat.reduceSub, List.cons_append, List.nil_append, go_sem]
  have hz : True := trivial
  have hy := yieldedV_eq
  have hL := True.intro
  repeat' (first | (refine WPV.seqK ?_; intro N hN) | (refine And.intro (hO _ (by kernel_rfl)) ?_; clear hO) | refine gA ?_ | (refine gR (M := noM) ?_; intro N hN ops hy) | (refine gDG (M := noM) ?_; intro N hN ops hy hO) | (refine WPV.condK ?_; intro A hA B hB) | (refine here ?_; refine sS ?_) | refine Both.mk ?_ ?_ | (refine hN _ ?_; try clear hN N; try clear hy ops) | (refine hA ?_; clear hA A hB B; try simp only [hz]) | (refine hB ?_; clear hA A hB B; try simp only [hz]) | (refine gG ?_ ?_ <;> (intro hz; have h := nm hz; try (exfalso; omega)) <;> (have hz := nz hz; try subst hz)) | (rw [if_pos (show _ ∧ _ from ⟨by omega, by omega⟩)]; refine sS ?_) | refine gT ?_ | (clear hN N))
  all_goals (try unfold segChk at hQ)
  all_goals (first | exact retZ hQ Tryd.results63 (Desc.re [] rfl) | exact retZN hQ Tryd.results63 (Desc.re [] rfl))
set_option maxRecDepth 100000 in
set_option maxHeartbeats 1000000 in
theorem snew_no (h : Shd) (hc : segChk h ≠ 0) (hp : List Ho) : Sp Tryd.prog K 26 [shdV h] hp fun u hh => u = .tup [.sc (.pointer none), .sl 1 [], .sc (.int .i64 (segChk h))] ∧ hh = hp := by
  refine Sp.lift (vs := [shdV h]) ?_ (fun _ => rfl) (fun _ => rfl) hp
  have cc := fun hp => segchk_s (K := K) h hp
  generalize segChk h = e at *
  obtain ⟨o, p, f⟩ := h
  refine Sp.of_bodyE Tryd.func26 rfl ?_
  intro Q hQ
  simp only [List.replicate, List.length_cons, List.length_nil, Tryd.ntmps26, Nat.reduceAdd, Nat.reduceSub, List.cons_append, List.nil_append, go_sem]
  have hz : True := trivial
  have hy := yieldedV_eq
  have hL := True.intro
  repeat' (first | (refine WPV.seqK ?_; intro N hN) | (refine And.intro (hO _ (by kernel_rfl)) ?_; clear hO) | refine gA ?_ | (refine gR (M := noM) ?_; intro N hN ops hy) | (refine gDG (M := noM) ?_; intro N hN ops hy hO) | (refine WPV.condK ?_; intro A hA B hB) | (refine here ?_; refine sS ?_) | refine Both.mk ?_ ?_ | ((with_reducible refine CallO.gd 63 ?_); refine CallO.toB Tryd.call63 (cc _) ?_) | ((with_reducible refine CallP.gd 63 ?_); refine CallP.toB Tryd.call63 (cc _) ?_) | (refine hN _ ?_; try clear hN N; try clear hy ops) | (refine hA ?_; clear hA A hB B; try simp only [hz]) | (refine hB ?_; clear hA A hB B; try simp only [hz]) | (refine gG ?_ ?_ <;> (intro hz; have h := nm hz; try (exfalso; omega)) <;> (have hz := nz hz; try subst hz)) | (rw [if_pos (show _ ∧ _ from ⟨by omega, by omega⟩)]; refine sS ?_) | refine gT ?_ | (clear hN N))
  all_goals (first | exact retZ hQ Tryd.results26 (Desc.re [] rfl) | exact retZN hQ Tryd.results26 (Desc.re [] rfl))
theorem vall3_s {a b c : Int} (h1 : 0 ≤ a ∧ a < 18446744073709551616) (h2 : 0 ≤ b ∧ b < 18446744073709551616) (h3 : 0 ≤ c ∧ c < 18446744073709551616) (h : List Ho) : Sp Tryd.prog K 64 [.sl 1 [[.sc (.int .u64 a)], [.sc (.int .u64 b)], [.sc (.int .u64 c)]]] h fun u hh => u = .sl 1 (bs (vput a.toNat ++ vput b.toNat ++ vput c.toNat)) ∧ hh = h := by
  have := vall_s (K := K) (l := [a, b, c]) (by simp) (by intro n hn; simp at hn; rcases hn with rfl | rfl | rfl <;> assumption) h
  simpa [ws] using this
set_option maxRecDepth 100000 in
set_option maxHeartbeats 1000000 in
theorem snew_ok (hK : KT K) (h : Shd) (hc : segChk h = 0) {f : List UInt8} (hw : wrapF (headB h) = (f, 0)) : Sp Tryd.prog K 26 [shdV h] [] fun u hh => u = .tup [.ptr 0 0, .sl 1 (bs f), .sc (.int .i64 0)] ∧ hh = (Wtr.new h).inn := by
  have cc := fun hp => segchk_s (K := K) h hp
  rw [hc] at cc
  obtain ⟨h1, h2, h3⟩ := segChk_ok hc
  have hl := headB_len hc
  have cw := fun hp => wrap_s hK (headB h) (by omega) hp
  rw [hw] at cw
  obtain ⟨o, p, q⟩ := h
  dsimp only [byV, headB] at h1 h2 h3 cw
  have ca := fun hp => vall3_s (K := K) (a := o) (b := p) (c := q) (by omega) (by omega) (by omega) hp
  generalize vput o.toNat ++ vput p.toNat ++ vput q.toNat = hb at *
  refine Sp.of_bodyE Tryd.func26 rfl ?_
  intro Q hQ
  simp only [List.replicate, List.length_cons, List.length_nil, Tryd.ntmps26, Nat.reduceAdd, Nat.reduceSub, List.cons_append, List.nil_append, go_sem]
  have hz : True := trivial
  have hy := yieldedV_eq
  have hL := True.intro
  repeat' (first | (refine WPV.seqK ?_; intro N hN) | (refine And.intro (hO _ (by kernel_rfl)) ?_; clear hO) | refine gA ?_ | (refine gR (M := noM) ?_; intro N hN ops hy) | (refine gDG (M := noM) ?_; intro N hN ops hy hO) | (refine WPV.condK ?_; intro A hA B hB) | (refine here ?_; refine sS ?_) | refine Both.mk ?_ ?_ | ((with_reducible refine CallO.gd 63 ?_); refine CallO.toB Tryd.call63 (cc _) ?_) | ((with_reducible refine CallO.gd 64 ?_); refine CallO.toB Tryd.call64 (ca _) ?_) | ((with_reducible refine CallO.gd 23 ?_); refine CallO.toB Tryd.call23 (cw _) ?_) | ((with_reducible refine CallO.gd 65 ?_); refine CallO.frB [] Tryd.call65 (cnew_s) ?_) | ((with_reducible refine CallP.gd 63 ?_); refine CallP.toB Tryd.call63 (cc _) ?_) | ((with_reducible refine CallP.gd 64 ?_); refine CallP.toB Tryd.call64 (ca _) ?_) | ((with_reducible refine CallP.gd 23 ?_); refine CallP.toB Tryd.call23 (cw _) ?_) | ((with_reducible refine CallP.gd 65 ?_); refine CallP.frB [] 4 Tryd.call65 (cnew_s) ?_) | (refine hN _ ?_; try clear hN N; try clear hy ops) | (refine hA ?_; clear hA A hB B; try simp only [hz]) | (refine hB ?_; clear hA A hB B; try simp only [hz]) | (refine gG ?_ ?_ <;> (intro hz; have h := nm hz; try (exfalso; omega)) <;> (have hz := nz hz; try subst hz)) | (rw [if_pos (show _ ∧ _ from ⟨by omega, by omega⟩)]; refine sS ?_) | refine gT ?_ | (clear hN N))
  all_goals (try unfold Wtr.new Cod.new at hQ)
  all_goals (first | exact retZ hQ Tryd.results26 (Desc.re [some 5, some 1, some 2, some 3, some 4] rfl) | exact retZN hQ Tryd.results26 (Desc.re [some 5, some 1, some 2, some 3, some 4] rfl))
set_option maxRecDepth 100000 in
theorem snext_s (w : Wtr) : Sp Tryd.prog K 33 [.ptr 0 0] w.inn fun u hh => u = .sc (.int .i64 w.n) ∧ hh = w.inn := by
  obtain ⟨o, n, c⟩ := w
  refine Sp.of_bodyE Tryd.func33 rfl ?_
  intro Q hQ
  simp only [List.replicate, List.length_cons, List.length_nil, Tryd.ntmps33, Nat.reduceAdd, Nat.reduceSub, List.cons_append, List.nil_append, go_sem]
  have hz : True := trivial
  have hy := yieldedV_eq
  have hL := True.intro
  repeat' (first | (refine WPV.seqK ?_; intro N hN) | (refine And.intro (hO _ (by kernel_rfl)) ?_; clear hO) | refine gA ?_ | (refine gR (M := noM) ?_; intro N hN ops hy) | (refine gDG (M := noM) ?_; intro N hN ops hy hO) | (refine WPV.condK ?_; intro A hA B hB) | (refine here ?_; refine sS ?_) | refine Both.mk ?_ ?_ | (refine hN _ ?_; try clear hN N; try clear hy ops) | (refine hA ?_; clear hA A hB B; try simp only [hz]) | (refine hB ?_; clear hA A hB B; try simp only [hz]) | (refine gG ?_ ?_ <;> (intro hz; have h := nm hz; try (exfalso; omega)) <;> (have hz := nz hz; try subst hz)) | (rw [if_pos (show _ ∧ _ from ⟨by omega, by omega⟩)]; refine sS ?_) | refine gT ?_ | (clear hN N))
  all_goals (first | exact retZ hQ Tryd.results33 (Desc.re [some 0, some 1, some 2, some 3, some 4] rfl) | exact retZN hQ Tryd.results33 (Desc.re [some 0, some 1, some 2, some 3, some 4] rfl))
set_option maxRecDepth 100000 in
set_option maxHeartbeats 1000000 in
theorem scopy_s (w : Wtr) (hl : w.c.d.ks.length ≤ 8) : Sp Tryd.prog K 32 [.ptr 0 0] w.inn fun u hh => u = .ptr 5 0 ∧ hh = w.inn ++ [.cells [.sc (.int .i64 w.o), .sc (.int .i64 w.n), .ptr 6 0], .cells [.ptr 7 0, .sc (.int .i64 w.c.c.x), .sc (.int .i64 w.c.c.y), .sc (.int .i64 w.c.c.z)], .cells [.hs true 1 8 0 w.c.d.ks.length, .mp 9, .sc (.int .i64 (w.c.d.e : Int))], .cells (kc w.c.d.ks), .map (pm w.c.d.c w.c.d.l)] := by
  have cd := dcopy_s (K := K) w.c.d hl
  obtain ⟨o, n, ⟨⟨x, y, z⟩, d⟩⟩ := w
  dsimp only at cd hl ⊢
  refine Sp.of_bodyE Tryd.func32 rfl ?_
  intro Q hQ
  simp only [List.replicate, List.length_cons, List.length_nil, Tryd.ntmps32, Nat.reduceAdd, Nat.reduceSub, List.cons_append, List.nil_append, go_sem]
  have hz : True := trivial
  have hy := yieldedV_eq
  have hL := True.intro
  repeat' (first | (refine WPV.seqK ?_; intro N hN) | (refine And.intro (hO _ (by kernel_rfl)) ?_; clear hO) | refine gA ?_ | (refine gR (M := noM) ?_; intro N hN ops hy) | (refine gDG (M := noM) ?_; intro N hN ops hy hO) | (refine WPV.condK ?_; intro A hA B hB) | (refine here ?_; refine sS ?_) | refine Both.mk ?_ ?_ | ((with_reducible refine CallO.gd 72 ?_); refine CallO.frB [2, 3, 4] Tryd.call72 (cd) ?_) | (refine hN _ ?_; try clear hN N; try clear hy ops) | (refine hA ?_; clear hA A hB B; try simp only [hz]) | (refine hB ?_; clear hA A hB B; try simp only [hz]) | (refine gG ?_ ?_ <;> (intro hz; have h := nm hz; try (exfalso; omega)) <;> (have hz := nz hz; try subst hz)) | (rw [if_pos (show _ ∧ _ from ⟨by omega, by omega⟩)]; refine sS ?_) | refine gT ?_ | (clear hN N))
  all_goals (first | exact retZ hQ Tryd.results32 (Desc.re [some 0, some 1, some 2, some 3, some 4, some 9, some 5, some 6, some 7, some 8] rfl) | exact retZN hQ Tryd.results32 (Desc.re [some 0, some 1, some 2, some 3, some 4, some 9, some 5, some 6, some 7, some 8] rfl))
set_option maxRecDepth 100000 in
set_option maxHeartbeats 2000000 in
theorem sput_x (hK : KT K) (w : Wtr) (t : Tx) (ok : w.c.d.Ok) (hr : rightF w.c.c = true) (hl : t.w.length ≤ 9223372036854775807) : Sp Tryd.prog K 27 [.ptr 0 0, txV t] w.inn fun u hh => u = byV (w.put t).1 ∧ hh = (w.put t).2.out := by
  have ck := tcheck_s (K := K) t hl
  rcases Wtr.put_two ok hr t with ⟨e, he, p1⟩ | ⟨hc, ho, hs, p, f, x', p1, p2, p3, p4, p5, p6, p7, p8⟩
  · have e2 : e = if checkF t ≠ 0 then checkF t else 6 := by
      unfold Wtr.put at p1
      split at p1
      · rename_i h; rw [if_pos h]; simp only [Prod.mk.injEq] at p1; exact p1.1.2.symm
      · rename_i h
        rw [if_neg h]
        split at p1
        · simp only [Prod.mk.injEq] at p1; exact p1.1.2.symm
        · rename_i h2
          have h3 := tput_len8 (x := w.c) ok (Decidable.not_not.1 h)
          rw [wrapF_small (by omega)] at p1
          simp only [Prod.mk.injEq] at p1; exact absurd p1.1.2.symm he
    have e3 : checkF t = 0 → t.o ≠ w.o ∨ t.s ≠ w.n := by
      intro h
      unfold Wtr.put at p1
      rw [if_neg (by rw [h]; simp)] at p1
      split at p1
      · assumption
      · have h3 := tput_len8 (x := w.c) ok h
        rw [wrapF_small (by omega)] at p1
        simp only [Prod.mk.injEq] at p1; exact absurd p1.1.2.symm he
    rw [p1, e2]
    generalize checkF t = q at *
    obtain ⟨o, n, ⟨⟨x, y, z⟩, d⟩⟩ := w
    obtain ⟨to, ts, ⟨c1, c2, c3⟩, tw⟩ := t
    dsimp only at e3
    dsimp only [txV] at ck
    clear p1 e2 he
    refine Sp.of_bodyE Tryd.func27 rfl ?_
    intro Q hQ
    simp only [List.replicate, List.length_cons, List.length_nil, Tryd.ntmps27, Nat.reduceAdd, Nat.reduceSub, List.cons_append, List.nil_append, go_sem]
    have hz : True := trivial
    have hy := yieldedV_eq
    have hL := True.intro
    repeat' (first | (refine WPV.seqK ?_; intro N hN) | (refine And.intro (hO _ (by kernel_rfl)) ?_; clear hO) | refine gA ?_ | (refine gR (M := noM) ?_; intro N hN ops hy) | (refine gDG (M := noM) ?_; intro N hN ops hy hO) | (refine WPV.condK ?_; intro A hA B hB) | (refine here ?_; refine sS ?_) | refine Both.mk ?_ ?_ | ((with_reducible refine CallO.gd 66 ?_); refine CallO.frB [] Tryd.call66 (ck) ?_) | ((with_reducible refine CallO.gd 67 ?_); refine CallO.frB [1, 2, 3, 4] Tryd.call67 (cp) ?_) | ((with_reducible refine CallO.gd 23 ?_); refine CallO.toB Tryd.call23 (cw _) ?_) | ((with_reducible refine CallP.gd 67 ?_); refine CallP.frB [1, 2, 3, 4] 2 Tryd.call67 (cp) ?_) | ((with_reducible refine CallP.gd 23 ?_); refine CallP.toB Tryd.call23 (cw _) ?_) | (refine hN _ ?_; try clear hN N; try clear hy ops) | (refine hA ?_; clear hA A hB B; try simp only [hz]) | (refine hB ?_; clear hA A hB B; try simp only [hz]) | (refine gG ?_ ?_ <;> (intro hz; have h := nm hz; try (exfalso; omega)) <;> (have hz := nz hz; try subst hz)) | (rw [if_pos (show _ ∧ _ from ⟨by omega, by omega⟩)]; refine sS ?_) | refine gT ?_ | (clear hN N))
    all_goals (try unfold byV at hQ)
    all_goals (first | exact retZ hQ Tryd.results27 (Desc.re [some 0, some 1, some 2, none, none, some 3, some 4] rfl) | exact retZN hQ Tryd.results27 (Desc.re [some 0, some 1, some 2, none, none, some 3, some 4] rfl))
  · rw [p3]
    have cp := cput_e (K := K) p1 ok hl
    have cw := fun hp => wrap_s hK p (by omega) hp
    rw [p2] at cw
    rw [hc] at ck
    have hb := check_ok hc
    clear p1 p2 p3 p8
    obtain ⟨o, n, ⟨⟨x, y, z⟩, d⟩⟩ := w
    obtain ⟨to, ts, ⟨c1, c2, c3⟩, tw⟩ := t
    obtain ⟨⟨x2, y2, z2⟩, d2⟩ := x'
    dsimp only at ho hs hb
    obtain ⟨_, hb, _⟩ := hb
    dsimp only [txV, byV] at ck cp cw
    subst ho
    subst hs
    refine Sp.of_bodyE Tryd.func27 rfl ?_
    intro Q hQ
    simp only [List.replicate, List.length_cons, List.length_nil, Tryd.ntmps27, Nat.reduceAdd, Nat.reduceSub, List.cons_append, List.nil_append, go_sem]
    have hz : True := trivial
    have hy := yieldedV_eq
    have hL := True.intro
    repeat' (first | (refine WPV.seqK ?_; intro N hN) | (refine And.intro (hO _ (by kernel_rfl)) ?_; clear hO) | refine gA ?_ | (refine gR (M := noM) ?_; intro N hN ops hy) | (refine gDG (M := noM) ?_; intro N hN ops hy hO) | (refine WPV.condK ?_; intro A hA B hB) | (refine here ?_; refine sS ?_) | refine Both.mk ?_ ?_ | ((with_reducible refine CallO.gd 66 ?_); refine CallO.frB [] Tryd.call66 (ck) ?_) | ((with_reducible refine CallO.gd 67 ?_); refine CallO.frB [1, 2, 3, 4] Tryd.call67 (cp) ?_) | ((with_reducible refine CallO.gd 23 ?_); refine CallO.toB Tryd.call23 (cw _) ?_) | ((with_reducible refine CallP.gd 67 ?_); refine CallP.frB [1, 2, 3, 4] 2 Tryd.call67 (cp) ?_) | ((with_reducible refine CallP.gd 23 ?_); refine CallP.toB Tryd.call23 (cw _) ?_) | (refine hN _ ?_; try clear hN N; try clear hy ops) | (refine hA ?_; clear hA A hB B; try simp only [hz]) | (refine hB ?_; clear hA A hB B; try simp only [hz]) | (refine gG ?_ ?_ <;> (intro hz; have h := nm hz; try (exfalso; omega)) <;> (have hz := nz hz; try subst hz)) | (rw [if_pos (show _ ∧ _ from ⟨by omega, by omega⟩)]; refine sS ?_) | refine gT ?_ | (clear hN N))
    all_goals (try unfold byV at hQ)
    all_goals (first | exact retZ hQ Tryd.results27 (Desc.re [some 0, some 1, some 2, none, none, some 6, some 7] rfl) | exact retZN hQ Tryd.results27 (Desc.re [some 0, some 1, some 2, none, none, some 6, some 7] rfl))
theorem sput_e (hK : KT K) {w w' : Wtr} {t : Tx} {f : List UInt8} {e : Int} (h : w.put t = ((f, e), w')) (ok : w.c.d.Ok) (hr : rightF w.c.c = true) (hl : t.w.length ≤ 9223372036854775807) : Sp Tryd.prog K 27 [.ptr 0 0, txV t] w.inn fun u hh => u = .tup [.sl 1 (bs f), .sc (.int .i64 e)] ∧ hh = w'.out := by
  have := sput_x hK w t ok hr hl
  rwa [h] at this
end Go.Proofs.YtgfnpcmehnjopaaDoor
end
