/- Parts of the proofs, joined: TxnG, TxnE, EpoP, EpoG, VsX, CrcV, FrmF, FrmG, MalF, VsUJ, MalP, MalR. -/
import Derived.Test.YtgfnpcmehnjopaaDoorM2
import Derived.Test.YtgfnpcmehnjopaaDoorM9
import Derived.Test.YtgfnpcmehnjopaaDoorM11
import Derived.Test.YtgfnpcmehnjopaaDoorM12
section
namespace Go.Proofs.YtgfnpcmehnjopaaDoor
section
open Go Go.RowKit
set_option linter.unusedVariables false
set_option linter.unusedSimpArgs false
theorem drop_app {α : Type} {b l r : List α} {u : Nat} (h : b.drop u = l ++ r) : b.drop (u + l.length) = r := by
  rw [← List.drop_drop, h, List.drop_left]
theorem num_at {b r : List UInt8} {u n most : Nat} {above : Int} (h : b.drop u = vput n ++ r) (hn : n ≤ most) (hm : most < 18446744073709551616) : numG b u 0 most above = (n, u + (vput n).length, 0) ∧ b.drop (u + (vput n).length) = r := by
  refine ⟨?_, drop_app h⟩
  unfold numG
  rw [if_neg (by simp), h, tk_nat n (by omega) r]
  have e : (UInt64.ofNat n).toNat = n := by rw [UInt64.toNat_ofNat']; omega
  simp only [e]
  rw [if_neg (by omega)]
theorem wtakeF_of {α : Type} {q : α → List UInt8 → Tk × α} {b : List UInt8} {used : Nat} {d d' : α} {k : ByteArray} {z n u : Nat} {er e : Int} (hd : q d (b.drop used) = ((k, (z : Int), er), d')) (hn : numG b (used + z) er 257 4 = (n, u, e)) :
    wtakeF q b used d = if e ≠ 0 ∨ n = 0 then ((⟨k, ⟨#[]⟩, true⟩, u, e), d') else if b.length < u + (n - 1) then ((⟨k, ⟨#[]⟩, false⟩, u, 2), d') else ((⟨k, subT b u (n - 1), false⟩, u + (n - 1), 0), d') := by
  unfold wtakeF
  simp only [hd, Int.toNat_natCast, hn]
theorem wtake_at {b r : List UInt8} {u : Nat} {d : Di} (ok : d.Ok) {a : Wr} (hk : a.k.size ≤ 64) (hv : a.v.size ≤ 256) (hg : a.g = true → a.v = ByteArray.empty) (h : b.drop u = (d.put a.k).1.1 ++ a.val ++ r) :
    wtakeF dtF b u d = ((a, u + ((d.put a.k).1.1 ++ a.val).length, 0), (d.put a.k).2) ∧ b.drop (u + ((d.put a.k).1.1 ++ a.val).length) = r := by
  refine ⟨?_, drop_app h⟩
  have hp : (d.put a.k).1.2 = 0 := by
    unfold Di.put
    rw [if_neg (by omega)]
    split <;> rfl
  rw [List.append_assoc] at h
  have hb := d.back ok a.k (a.val ++ r) hp
  rw [← h] at hb
  have h2 := drop_app h
  generalize (d.put a.k).1.1 = p at *
  generalize (d.put a.k).2 = d' at *
  obtain ⟨k, v, g⟩ := a
  dsimp only [Int.toNat_natCast] at *
  cases g with
  | true =>
    have hv0 : v = ByteArray.empty := hg rfl
    subst hv0
    have hz := vput_zero
    have e1 : Wr.val ⟨k, ByteArray.empty, true⟩ = vput 0 := by rw [hz]; rfl
    rw [e1] at h2 ⊢
    obtain ⟨n1, n2⟩ := num_at (most := 257) (above := 4) h2 (by omega) (by omega)
    rw [wtakeF_of (q := dtF) hb n1, if_pos (.inr rfl)]
    simp only [List.length_append, Nat.add_assoc]
    rfl
  | false =>
    have e1 : Wr.val ⟨k, v, false⟩ = vput (v.size + 1) ++ v.toList := rfl
    rw [e1] at h2 ⊢
    rw [List.append_assoc] at h2
    obtain ⟨n1, n2⟩ := num_at (most := 257) (above := 4) h2 (by omega) (by omega)
    rw [wtakeF_of (q := dtF) hb n1]
    have hs := size_toList v
    have hl : v.size + (u + p.length + (vput (v.size + 1)).length) ≤ b.length := by
      have := congrArg List.length n2
      rw [List.length_drop, List.length_append, hs] at this
      by_cases h0 : u + p.length + (vput (v.size + 1)).length ≤ b.length
      · omega
      · have := congrArg List.length h2
        rw [List.length_drop, List.length_append, List.length_append, hs] at this
        have := List.length_pos_iff.2 (vput_ne (v.size + 1))
        omega
    rw [if_neg (by simp), if_neg (by omega)]
    have e2 : subT b (u + p.length + (vput (v.size + 1)).length) (v.size + 1 - 1) = v := by
      unfold subT
      rw [n2, Nat.add_sub_cancel, ← hs, List.take_left, ByteArray.toList_eq]
    rw [e2]
    simp only [List.length_append, hs, Nat.add_assoc]
    rfl
theorem wstake_at {b r : List UInt8} : ∀ (w : List Wr) {u : Nat} {d : Di}, d.Ok → (∀ a ∈ w, a.k.size ≤ 64 ∧ a.v.size ≤ 256 ∧ (a.g = true → a.v = ByteArray.empty)) → b.drop u = (wputF dpF d w).1 ++ r →
    wstakeF dtF b w.length u 0 d = ((w, u + (wputF dpF d w).1.length, 0), (wputF dpF d w).2)
  | [], u, d, _, _, h => by simp [wstakeF, wputF]
  | a :: w, u, d, ok, ha, h => by
    obtain ⟨h1, h2, h3⟩ := ha a (by simp)
    have hw : wputF dpF d (a :: w) = ((d.put a.k).1.1 ++ a.val ++ (wputF dpF (d.put a.k).2 w).1, (wputF dpF (d.put a.k).2 w).2) := rfl
    rw [hw] at h ⊢
    dsimp only at h ⊢
    rw [List.append_assoc] at h
    obtain ⟨g1, g2⟩ := wtake_at ok h1 h2 h3 h
    have ih := wstake_at w (ok.put a.k) (fun x hx => ha x (by simp [hx])) g2
    show (if (0 : Int) ≠ 0 then _ else _) = _
    rw [if_neg (by simp), g1]
    dsimp only
    rw [ih]
    simp only [List.length_append, Nat.add_assoc]
theorem take_put_t {x : Cod Di} (ok : x.d.Ok) (hr : rightF x.c = true) {t : Tx} (hc : checkF t = 0) (rest : List UInt8) :
    ttakeF dtF x ((tputF dpF x t).1.1 ++ rest) = ((t, (tputF dpF x t).1.1.length, 0), (tputF dpF x t).2) := by
  obtain ⟨⟨o1, o2⟩, ⟨s1, s2⟩, hrt, hw, ha, _⟩ := check_ok hc
  have e : tputF dpF x t = ((t.headF x.c ++ (wputF dpF x.d t.w).1, 0), ⟨t.c, (wputF dpF x.d t.w).2⟩) := by unfold tputF; rw [if_neg (by rw [hc]; simp)]
  rw [e]
  dsimp only
  generalize hb : t.headF x.c ++ (wputF dpF x.d t.w).1 ++ rest = b
  have h0 : b.drop 0 = vput t.o.toNat ++ (vput t.s.toNat ++ ((cputF x.c t.c).1 ++ (vput t.w.length ++ ((wputF dpF x.d t.w).1 ++ rest)))) := by
    rw [List.drop_zero, ← hb]; unfold Tx.headF; simp only [List.append_assoc]
  obtain ⟨n1, g1⟩ := num_at (most := 4611686018427387903) (above := 1) h0 (by omega) (by omega)
  obtain ⟨n2, g2⟩ := num_at (most := 4611686018427387903) (above := 1) g1 (by omega) (by omega)
  have n3 := take_put x.c t.c (vput t.w.length ++ ((wputF dpF x.d t.w).1 ++ rest)) hr hrt
  rw [← g2] at n3
  have g3 := drop_app g2
  obtain ⟨n4, g4⟩ := num_at (most := 16) (above := 4) g3 hw (by omega)
  have n5 := wstake_at t.w ok ha g4
  unfold ttakeF
  simp only [n1, n2, n3, n4, n5, if_true]
  have et : (⟨((t.o.toNat : Nat) : Int), ((t.s.toNat : Nat) : Int), t.c, t.w⟩ : Tx) = t := by
    obtain ⟨o, s, c, w⟩ := t
    dsimp only at o1 s1 ⊢
    congr 1 <;> omega
  rw [et, hc, if_neg (by simp)]
  unfold Tx.headF
  simp only [List.length_append, Nat.zero_add, Nat.add_assoc]
theorem wput_ok : ∀ (w : List Wr) {d : Di}, d.Ok → (wputF dpF d w).2.Ok
  | [], d, h => h
  | a :: w, d, h => wput_ok w (h.put a.k)
end
section
open Go Go.RowKit
set_option linter.unusedVariables false
set_option linter.unusedSimpArgs false
theorem wstakeF_err {α : Type} {q : α → List UInt8 → Tk × α} {b : List UInt8} {e : Int} (he : e ≠ 0) : ∀ (n u : Nat) (d : α), wstakeF q b n u e d = (([], u, e), d)
  | 0, _, _ => rfl
  | n + 1, u, d => by
    show (if e ≠ 0 then _ else _) = _
    rw [if_pos he]
theorem wstakeF_one {α : Type} {q : α → List UInt8 → Tk × α} {b : List UInt8} {n u u' : Nat} {e : Int} {d d' : α} {a : Wr} (h : wtakeF q b u d = ((a, u', e), d')) :
    wstakeF q b (n + 1) u 0 d = ((a :: (wstakeF q b n u' e d').1.1, (wstakeF q b n u' e d').1.2.1, (wstakeF q b n u' e d').1.2.2), (wstakeF q b n u' e d').2) := by
  show (if (0 : Int) ≠ 0 then _ else _) = _
  rw [if_neg (by simp)]
  simp only [h]
theorem dtake_nat (d : Di) (b : List UInt8) : ∃ (k : ByteArray) (z : Nat) (er : Int) (d' : Di), d.take b = ((k, (z : Int), er), d') ∧ z ≤ b.length := by
  obtain ⟨h1, h2⟩ := dtake_sz d b
  exact ⟨(d.take b).1.1, (d.take b).1.2.1.toNat, (d.take b).1.2.2, (d.take b).2, by rw [Int.toNat_of_nonneg h1], by omega⟩
def seg (b : List UInt8) (u v : Nat) : List UInt8 := (b.drop u).take (v - u)
theorem seg_app {b : List UInt8} {u v w : Nat} (h1 : u ≤ v) (h2 : v ≤ w) : seg b u v ++ seg b v w = seg b u w := by
  unfold seg
  rw [show w - u = (v - u) + (w - v) by omega, List.take_add, List.drop_drop, show u + (v - u) = v by omega]
theorem num_canon {b : List UInt8} {u most n v : Nat} {above : Int} (ha : above ≠ 0) (hu : u ≤ b.length) (h : numG b u 0 most above = (n, v, 0)) : vput n = seg b u v ∧ u < v ∧ v ≤ b.length ∧ n ≤ most := by
  unfold numG at h
  rw [if_neg (by simp)] at h
  simp only [Prod.mk.injEq] at h
  obtain ⟨rfl, rfl, h3⟩ := h
  split at h3
  · exact absurd h3 ha
  · obtain ⟨k1, k2, k3⟩ := tk_ok h3
    rw [List.length_drop] at k2
    refine ⟨?_, by omega, by omega, by omega⟩
    rw [k3]; unfold seg
    rw [Nat.add_sub_cancel_left]
theorem di_canon {d : Di} (ok : d.Ok) {b : List UInt8} {k : ByteArray} {z : Nat} {d' : Di} (h : d.take b = ((k, (z : Int), 0), d')) : d.put k = ((b.take z, 0), d') ∧ 1 ≤ z ∧ z ≤ b.length := by
  have h8 := ok.len
  unfold Di.take at h
  rcases hb : dkOf b with e | ⟨p, u⟩ | ⟨s, u⟩
  · rw [hb] at h
    simp only [Prod.mk.injEq] at h
    exact absurd h.1.2.2 (dkOf_err hb)
  · rw [hb] at h
    dsimp only at h
    have hp := dkOf_place hb
    have hbp : (tk b).2.2 = 0 ∧ (tk b).1.toNat = p ∧ (tk b).2.1 = u := by
      unfold dkOf at hb
      split at hb <;> try cases hb
      split at hb <;> try cases hb
      · rename_i h1 _; exact ⟨Decidable.not_not.1 h1, rfl, rfl⟩
      split at hb <;> try cases hb
      split at hb <;> try cases hb
      split at hb <;> cases hb
    obtain ⟨b1, b2, b3⟩ := hbp
    obtain ⟨k1, k2, k3⟩ := tk_ok b1
    split at h
    · simp only [Prod.mk.injEq] at h; exact absurd h.1.2.2 (by decide)
    · rename_i hle
      simp only [Prod.mk.injEq] at h
      obtain ⟨⟨rfl, h2, _⟩, rfl⟩ := h
      have hz : z = u := by omega
      subst hz
      have hg : d.ks[p - 1]? = some (d.ks.getD (p - 1) ⟨#[]⟩) := by rw [List.getD_eq_getElem?_getD, List.getElem?_eq_getElem (by omega)]; rfl
      have hat := ok.at_get hg
      have hsz := ok.sz _ (List.mem_iff_getElem?.2 ⟨_, hg⟩)
      unfold Di.put
      rw [if_neg (by omega), if_pos (by omega), hat]
      refine ⟨?_, by omega, by omega⟩
      rw [show ((((p - 1 : Nat) : Int)) + 1).toNat = p by omega, ← b2, k3, b3]
  · rw [hb] at h
    dsimp only at h
    split at h
    · simp only [Prod.mk.injEq] at h; exact absurd h.1.2.2 (by decide)
    · rename_i hat
      simp only [Prod.mk.injEq] at h
      obtain ⟨⟨rfl, h2, _⟩, rfl⟩ := h
      have hz : z = u := by omega
      subst hz
      have hs := dkOf_text hb
      unfold dkOf at hb
      split at hb <;> try cases hb
      split at hb <;> try cases hb
      split at hb <;> try cases hb
      split at hb <;> try cases hb
      split at hb <;> try cases hb
      rename_i g1 g2 g3 g4 g5
      obtain ⟨k1, k2, k3⟩ := tk_ok (Decidable.not_not.1 g1)
      obtain ⟨m1, m2, m3⟩ := tk_ok (Decidable.not_not.1 g3)
      rw [Decidable.not_not.1 g2] at k3
      generalize (tk b).2.1 = z at *
      rw [List.length_drop] at m2
      generalize (tk (b.drop z)).2.1 = y at *
      generalize (tk (b.drop z)).1.toNat = l at *
      have hsz : (dkText b (z + y) l).size = l := by
        unfold dkText
        show ((b.drop (z + y)).take l).toArray.size = l
        simp; omega
      have htl : (dkText b (z + y) l).toList = (b.drop (z + y)).take l := by
        rw [ByteArray.toList_eq]; rfl
      unfold Di.put
      rw [if_neg (by omega), if_neg hat, hsz, htl, k3, m3]
      refine ⟨?_, by omega, by omega⟩
      rw [← List.take_add, ← List.drop_drop, show z + y + l = z + y + l by rfl]
      rw [List.take_add (i := z + y), List.drop_drop]
theorem wtake_canon {b : List UInt8} {u v : Nat} {d d' : Di} (ok : d.Ok) {a : Wr} (hu : u ≤ b.length) (h : wtakeF dtF b u d = ((a, v, 0), d')) : (d.put a.k).1.1 ++ a.val = seg b u v ∧ (d.put a.k).2 = d' ∧ u ≤ v ∧ v ≤ b.length := by
  obtain ⟨k, z, er, d1, hd, hz⟩ := dtake_nat d (b.drop u)
  rw [List.length_drop] at hz
  obtain ⟨n, w, e, hn⟩ : ∃ n w e, numG b (u + z) er 257 4 = (n, w, e) := ⟨_, _, _, rfl⟩
  have hw := wtakeF_of (q := dtF) hd hn
  rw [h] at hw
  have he0 : e = 0 := by
    split at hw
    · rename_i hc; simp only [Prod.mk.injEq] at hw; exact hw.1.2.2.symm
    · rename_i hc; simp only [not_or, Decidable.not_not] at hc; exact hc.1
  subst he0
  obtain ⟨_, _, h3, _, _⟩ := numG_ok (by omega) (by decide) hn
  obtain ⟨rfl, _⟩ := h3 rfl
  obtain ⟨c1, c2, c3⟩ := di_canon ok hd
  obtain ⟨n1, n2, n3, n4⟩ := num_canon (by decide) (by omega) hn
  rw [List.length_drop] at c3
  have hseg : (b.drop u).take z = seg b u (u + z) := by unfold seg; rw [Nat.add_sub_cancel_left]
  split at hw
  · rename_i hc
    have h0 : n = 0 := by
      rcases hc with hc | hc
      · exact absurd rfl hc
      · exact hc
    subst h0
    simp only [Prod.mk.injEq] at hw
    obtain ⟨⟨rfl, rfl, _⟩, rfl⟩ := hw
    rw [c1]
    refine ⟨?_, rfl, by omega, by omega⟩
    show (b.drop u).take z ++ [0] = _
    rw [← vput_zero, n1, hseg, seg_app (by omega) (by omega)]
  · rename_i hc
    have h0 : n ≠ 0 := fun h => hc (.inr h)
    split at hw
    · simp only [Prod.mk.injEq] at hw; exact absurd hw.1.2.2 (by decide)
    · rename_i hle
      simp only [Prod.mk.injEq] at hw
      obtain ⟨⟨rfl, rfl, _⟩, rfl⟩ := hw
      rw [c1]
      refine ⟨?_, rfl, by omega, by omega⟩
      have hsz : (subT b w (n - 1)).size = n - 1 := by
        show ((b.drop w).take (n - 1)).toArray.size = n - 1
        simp; omega
      have htl : (subT b w (n - 1)).toList = seg b w (w + (n - 1)) := by
        rw [ByteArray.toList_eq]; unfold seg; rw [Nat.add_sub_cancel_left]; rfl
      show (b.drop u).take z ++ (vput ((subT b w (n - 1)).size + 1) ++ (subT b w (n - 1)).toList) = _
      rw [hsz, htl, show n - 1 + 1 = n by omega, n1, hseg, ← List.append_assoc, seg_app (by omega) (by omega), seg_app (by omega) (by omega)]
theorem ws_canon {b : List UInt8} : ∀ (N : Nat) {u v : Nat} {d d' : Di} {ws : List Wr}, d.Ok → u ≤ b.length → wstakeF dtF b N u 0 d = ((ws, v, 0), d') → ws.length = N ∧ wputF dpF d ws = (seg b u v, d') ∧ u ≤ v ∧ v ≤ b.length ∧ d'.Ok
  | 0, u, v, d, d', ws, ok, hu, h => by
    simp only [wstakeF, Prod.mk.injEq] at h
    obtain ⟨⟨rfl, rfl, _⟩, rfl⟩ := h
    exact ⟨rfl, by simp [wputF, seg], by omega, by omega, ok⟩
  | N + 1, u, v, d, d', ws, ok, hu, h => by
    obtain ⟨a, u', e, d1, hw⟩ : ∃ a u' e d1, wtakeF dtF b u d = ((a, u', e), d1) := ⟨_, _, _, _, rfl⟩
    rw [wstakeF_one hw] at h
    by_cases he : e = 0
    · subst he
      obtain ⟨c1, c2, c3, c4⟩ := wtake_canon ok hu hw
      have ok1 : d1.Ok := by rw [← c2]; exact ok.put a.k
      obtain ⟨ws', v', e', d2, hs⟩ : ∃ ws' v' e' d2, wstakeF dtF b N u' 0 d1 = ((ws', v', e'), d2) := ⟨_, _, _, _, rfl⟩
      rw [hs] at h
      simp only [Prod.mk.injEq] at h
      obtain ⟨⟨rfl, rfl, rfl⟩, rfl⟩ := h
      obtain ⟨i1, i2, i3, i4, i5⟩ := ws_canon N ok1 c4 hs
      refine ⟨by simp [i1], ?_, by omega, i4, i5⟩
      rw [wputF_cons]
      dsimp only [dpF]
      rw [c2, c1]
      rw [i2]
      dsimp only
      rw [seg_app c3 i3]
    · rw [wstakeF_err he] at h
      simp only [Prod.mk.injEq] at h
      exact absurd h.1.2.2 he
theorem put_take_t {x : Cod Di} (ok : x.d.Ok) (hr : rightF x.c = true) {b : List UInt8} {t : Tx} {n : Nat} {x' : Cod Di} (h : ttakeF dtF x b = ((t, n, 0), x')) : tputF dpF x t = ((b.take n, 0), x') ∧ 1 ≤ n ∧ n ≤ b.length ∧ checkF t = 0 ∧ x'.d.Ok ∧ rightF x'.c = true := by
  obtain ⟨o, u1, e1, h1⟩ : ∃ o u e, numG b 0 0 4611686018427387903 1 = (o, u, e) := ⟨_, _, _, rfl⟩
  obtain ⟨s, u2, e2, h2⟩ : ∃ o u e, numG b u1 e1 4611686018427387903 1 = (o, u, e) := ⟨_, _, _, rfl⟩
  obtain ⟨c, m, e3, h3⟩ : ∃ c m e, (if e2 = 0 then ctakeF x.c (b.drop u2) else (⟨0, 0, 0⟩, 0, e2)) = (c, m, e) := ⟨_, _, _, rfl⟩
  obtain ⟨many, u4, e4, h4⟩ : ∃ o u e, numG b (u2 + m) e3 16 4 = (o, u, e) := ⟨_, _, _, rfl⟩
  obtain ⟨ws, u5, e5, d5, h5⟩ : ∃ ws u e d, wstakeF dtF b many u4 e4 x.d = ((ws, u, e), d) := ⟨_, _, _, _, rfl⟩
  have hh : ttakeF dtF x b = if (if e5 = 0 then checkF ⟨o, s, c, ws⟩ else e5) ≠ 0 then ((Tx.zero, 0, if e5 = 0 then checkF ⟨o, s, c, ws⟩ else e5), x) else ((⟨o, s, c, ws⟩, u5, 0), ⟨c, d5⟩) := by
    unfold ttakeF
    simp only [h1, h2, h3, h4, h5]
  rw [h] at hh
  have e50 : e5 = 0 := by
    by_cases h0 : e5 = 0
    · exact h0
    · rw [if_pos (by rw [if_neg h0]; exact h0), if_neg h0] at hh
      simp only [Prod.mk.injEq] at hh
      exact absurd hh.1.2.2.symm h0
  subst e50
  rw [if_pos rfl] at hh
  have hc : checkF ⟨o, s, c, ws⟩ = 0 := by
    by_cases h0 : checkF ⟨o, s, c, ws⟩ = 0
    · exact h0
    · rw [if_pos h0] at hh
      simp only [Prod.mk.injEq] at hh
      exact absurd hh.1.2.2.symm h0
  rw [if_neg (by rw [hc]; simp)] at hh
  simp only [Prod.mk.injEq, and_true] at hh
  obtain ⟨⟨rfl, rfl⟩, rfl⟩ := hh
  have e40 : e4 = 0 := by
    by_cases h0 : e4 = 0
    · exact h0
    · rw [wstakeF_err h0] at h5
      simp only [Prod.mk.injEq] at h5
      exact h5.1.2.2
  subst e40
  obtain ⟨a1, a2, a3, _, _⟩ := numG_ok (Nat.zero_le _) (by decide) h1
  obtain ⟨b1, b2, b3, _, _⟩ := numG_ok a2 (by decide) h2
  have hm : u2 + m ≤ b.length := by
    split at h3
    · have := ctake_le x.c (b.drop u2)
      rw [h3, List.length_drop] at this
      dsimp only at this; omega
    · simp only [Prod.mk.injEq] at h3; omega
  obtain ⟨d1, d2, d3, _, _⟩ := numG_ok hm (by decide) h4
  obtain ⟨rfl, _⟩ := d3 rfl
  have e20 : e2 = 0 := by
    by_cases h0 : e2 = 0
    · exact h0
    · rw [if_neg h0] at h3
      simp only [Prod.mk.injEq] at h3
      exact h3.2.2
  subst e20
  obtain ⟨rfl, _⟩ := b3 rfl
  rw [if_pos rfl] at h3
  obtain ⟨p1, p2, p3, p4⟩ := num_canon (by decide) (Nat.zero_le _) h1
  obtain ⟨q1, q2, q3, q4⟩ := num_canon (by decide) a2 h2
  obtain ⟨r1, r2, r3, r4⟩ := num_canon (by decide) hm h4
  obtain ⟨i1, i2, i3, i4, i5⟩ := ws_canon many ok d2 h5
  have hct := ctake_ok (p := x.c) (s := b.drop u2) (by rw [h3])
  rw [h3] at hct
  dsimp only at hct
  obtain ⟨t1, t2, t3, t4⟩ := hct
  refine ⟨?_, by omega, i4, hc, i5, t1⟩
  unfold tputF
  rw [if_neg (by rw [hc]; simp)]
  dsimp only
  rw [i2]
  unfold Tx.headF
  dsimp only
  rw [Int.toNat_natCast, Int.toNat_natCast, t2, i1, p1, q1, r1]
  dsimp only
  have hseg : (b.drop u2).take m = seg b u2 (u2 + m) := by unfold seg; rw [Nat.add_sub_cancel_left]
  rw [hseg, seg_app (by omega) (by omega), seg_app (by omega) (by omega), seg_app (by omega) (by omega), seg_app (by omega) (by omega)]
  unfold seg
  rw [List.drop_zero, Nat.sub_zero]
end
end Go.Proofs.YtgfnpcmehnjopaaDoor
end
section
namespace Go.Proofs.YtgfnpcmehnjopaaDoor
open Go Go.RowKit
set_option linter.unusedVariables false
set_option linter.unusedSimpArgs false
variable {K : Nat → Obj → Prop}
def Tx.d (t : Tx) : List D := [.sc (.int .i64 t.o), .sc (.int .i64 t.s), .sc (.int .i64 t.c.x), .sc (.int .i64 t.c.y), .sc (.int .i64 t.c.z), .sl 3 (wrl t.w)]
def txs (l : List Tx) : List (List D) := l.map Tx.d
theorem txs_len (l : List Tx) : (txs l).length = l.length := by simp [txs]
theorem txs_get (l : List Tx) (i : Nat) : (txs l)[i]? = (l[i]?).map Tx.d := by simp [txs]
theorem txs_app (l m : List Tx) : txs (l ++ m) = txs l ++ txs m := by simp [txs]
theorem txs_one (a : Tx) : txs [a] = [a.d] := rfl
attribute [go_sem] txs_len txs_get Tx.d
theorem cput_e {x y : Cod Di} {t : Tx} {b : List UInt8} {e : Int} (h : tputF dpF x t = ((b, e), y)) (ok : x.d.Ok) (hl : t.w.length ≤ 9223372036854775807) : Sp Tryd.prog K 67 [.ptr 0 0, txV t] x.inn fun u hh => u = .tup [.sl 1 (bs b), .sc (.int .i64 e)] ∧ hh = y.out := by
  have := cput_x (K := K) x t ok hl
  rwa [h] at this
theorem ctake_e {x y : Cod Di} {t : Tx} {b : List UInt8} {n : Nat} {e : Int} (h : ttakeF dtF x b = ((t, n, e), y)) (ok : x.d.Ok) (hl : b.length ≤ 1000000) : Sp Tryd.prog K 70 [.ptr 0 0, .sl 1 (bs b)] x.inn fun u hh => u = ttV (t, n, e) ∧ hh = y.tout := by
  have := ctake_x (K := K) x b ok hl
  rwa [h] at this
theorem tput_ok {x : Cod Di} (ok : x.d.Ok) (t : Tx) : (tputF dpF x t).2.d.Ok := by
  unfold tputF
  split
  · exact ok
  · exact wput_ok t.w ok
theorem tput_r {x : Cod Di} (hr : rightF x.c = true) (t : Tx) : rightF (tputF dpF x t).2.c = true := by
  unfold tputF
  split
  · exact hr
  · rename_i h; exact (check_ok (Decidable.not_not.1 h)).2.2.1
theorem wput_len : ∀ (w : List Wr) (d : Di), d.Ok → (∀ a ∈ w, a.v.size ≤ 256) → (wputF dpF d w).1.length ≤ 1000 * w.length
  | [], d, _, _ => by simp [wputF]
  | a :: w, d, ok, h => by
    have ih := wput_len w (d.put a.k).2 (ok.put a.k) (fun x hx => h x (by simp [hx]))
    have l1 := put_len ok a.k
    have hv := h a (by simp)
    have l2 : a.val.length ≤ 300 := by
      unfold Wr.val
      split
      · simp
      · have := vput_len (n := a.v.size + 1) (by omega)
        simp only [List.length_append, size_toList]; omega
    rw [wputF_cons]
    dsimp only [dpF]
    simp only [List.length_append, List.length_cons]; omega
theorem ite_err {α : Type} {E e : Int} {x y : α} {t : Tx} {n : Nat} (h : (if E ≠ 0 then ((Tx.zero, 0, E), x) else ((t, n, 0), y)).1.2.2 = e) (he : e ≠ 0) : (if E ≠ 0 then ((Tx.zero, 0, E), x) else ((t, n, 0), y)) = ((Tx.zero, 0, e), x) := by
  by_cases hE : E ≠ 0
  · rw [if_pos hE] at h ⊢
    dsimp only at h
    rw [h]
  · rw [if_neg hE] at h
    exact absurd h.symm he
theorem ttake_err {x : Cod Di} {b : List UInt8} {e : Int} (h : (ttakeF dtF x b).1.2.2 = e) (he : e ≠ 0) : ttakeF dtF x b = ((Tx.zero, 0, e), x) := ite_err h he
theorem r_new : rightF Cod.new.c = true := by decide
theorem ttake_w {x x' : Cod Di} {b : List UInt8} {t : Tx} {n : Nat} {e : Int} (ok : x.d.Ok) (hr : rightF x.c = true) (h : ttakeF dtF x b = ((t, n, e), x')) : t.w.length ≤ 16 := by
  by_cases he : e = 0
  · subst he
    exact (check_ok (put_take_t ok hr h).2.2.2.1).2.2.2.1
  · have := ttake_err (x := x) (b := b) (e := e) (by rw [h]) he
    rw [h] at this
    simp only [Prod.mk.injEq] at this
    rw [this.1.1]; exact Nat.zero_le _
theorem tput_two {x : Cod Di} (ok : x.d.Ok) (hr : rightF x.c = true) (t : Tx) :
    (checkF t ≠ 0 ∧ tputF dpF x t = (([], checkF t), x)) ∨ (checkF t = 0 ∧ ∃ b x', tputF dpF x t = ((b, 0), x') ∧ x'.d.Ok ∧ rightF x'.c = true ∧ b.length ≤ 20000 ∧ ∀ rest, ttakeF dtF x (b ++ rest) = ((t, b.length, 0), x')) := by
  by_cases hc : checkF t = 0
  · refine .inr ⟨hc, (tputF dpF x t).1.1, (tputF dpF x t).2, ?_, tput_ok ok t, tput_r hr t, ?_, fun rest => take_put_t ok hr hc rest⟩
    · have : (tputF dpF x t).1.2 = 0 := by unfold tputF; rw [if_neg (by rw [hc]; simp)]
      exact Prod.ext (Prod.ext rfl this) rfl
    · obtain ⟨_, _, _, hw, ha, _⟩ := check_ok hc
      have e : (tputF dpF x t).1.1 = t.headF x.c ++ (wputF dpF x.d t.w).1 := by unfold tputF; rw [if_neg (by rw [hc]; simp)]
      rw [e]
      have h1 := cputF_len x.c t.c
      have h2 := wput_len t.w x.d ok (fun a h => (ha a h).2.1)
      have l1 := vput_len (n := t.o.toNat) (by omega)
      have l2 := vput_len (n := t.s.toNat) (by omega)
      have l3 := vput_len (n := t.w.length) (by omega)
      unfold Tx.headF
      simp only [List.length_append]; omega
  · refine .inl ⟨hc, ?_⟩
    unfold tputF; rw [if_pos hc]
theorem ttake_two {x : Cod Di} (ok : x.d.Ok) (hr : rightF x.c = true) (b : List UInt8) :
    (∃ e, e ≠ 0 ∧ ttakeF dtF x b = ((Tx.zero, 0, e), x)) ∨ (∃ t n x', ttakeF dtF x b = ((t, n, 0), x') ∧ tputF dpF x t = ((b.take n, 0), x') ∧ 1 ≤ n ∧ n ≤ b.length ∧ checkF t = 0 ∧ x'.d.Ok ∧ rightF x'.c = true ∧ t.w.length ≤ 16) := by
  by_cases he : (ttakeF dtF x b).1.2.2 = 0
  · have h : ttakeF dtF x b = (((ttakeF dtF x b).1.1, (ttakeF dtF x b).1.2.1, 0), (ttakeF dtF x b).2) := Prod.ext (Prod.ext rfl (Prod.ext rfl he)) rfl
    obtain ⟨a1, a2, a3, a4, a5, a6⟩ := put_take_t ok hr h
    exact .inr ⟨_, _, _, h, a1, a2, a3, a4, a5, a6, ttake_w ok hr h⟩
  · exact .inl ⟨_, he, ttake_err rfl he⟩
end Go.Proofs.YtgfnpcmehnjopaaDoor
end
section
namespace Go.Proofs.YtgfnpcmehnjopaaDoor
open Go Go.RowKit
set_option linter.unusedVariables false
set_option linter.unusedSimpArgs false
variable {K : Nat → Obj → Prop}
def packGo (x : Cod Di) : List Tx → List UInt8 × Int
  | [] => ([], 0)
  | t :: l => if (tputF dpF x t).1.2 ≠ 0 then ([], (tputF dpF x t).1.2) else if (packGo (tputF dpF x t).2 l).2 ≠ 0 then ([], (packGo (tputF dpF x t).2 l).2) else ((tputF dpF x t).1.1 ++ (packGo (tputF dpF x t).2 l).1, 0)
def packF (l : List Tx) : List UInt8 × Int :=
  if 4 < l.length then ([], 4) else if (packGo Cod.new l).2 ≠ 0 then ([], (packGo Cod.new l).2) else (vput l.length ++ (packGo Cod.new l).1, 0)
theorem packGo_err {x y : Cod Di} {t : Tx} {l : List Tx} {b : List UInt8} {e : Int} (h : tputF dpF x t = ((b, e), y)) (he : e ≠ 0) : packGo x (t :: l) = ([], e) := by
  unfold packGo; rw [h]; exact if_pos he
theorem packGo_ok {x y : Cod Di} {t : Tx} {l : List Tx} {b : List UInt8} (h : tputF dpF x t = ((b, 0), y)) : packGo x (t :: l) = if (packGo y l).2 ≠ 0 then ([], (packGo y l).2) else (b ++ (packGo y l).1, 0) := by
  show (if (tputF dpF x t).1.2 ≠ 0 then _ else _) = _
  rw [h]; exact if_neg (by simp)
structure PJ (l : List Tx) (k : Nat) (acc : List UInt8) (x : Cod Di) : Prop where
  hk : k ≤ l.length
  ok : x.d.Ok
  hr : rightF x.c = true
  len : acc.length ≤ 10 + 20000 * k
  eq : packF l = if (packGo x (l.drop k)).2 ≠ 0 then ([], (packGo x (l.drop k)).2) else (acc ++ (packGo x (l.drop k)).1, 0)
set_option maxRecDepth 100000 in
set_option maxHeartbeats 2000000 in
theorem pack_s (l : List Tx) (hw : ∀ t ∈ l, t.w.length ≤ 1000000) : Sp Tryd.prog K 115 [.sl 6 (txs l)] [] fun u hh => u = byV (packF l) ∧ hh = [] := by
  by_cases h4 : 4 < l.length
  · rw [show packF l = ([], 4) from if_pos h4]
    refine Sp.of_bodyE Tryd.func115 rfl ?_
    intro Q hQ
    simp only [List.replicate, List.length_cons, List.length_nil, Tryd.ntmps115, Nat.reduceAdd, Nat.reduceSub, List.cons_append, List.nil_append, go_sem]
    have hz : True := trivial
    have hy := yieldedV_eq
    have hL := True.intro
    repeat' (first | (refine WPV.seqK ?_; intro N hN) | refine gA ?_ | (refine gR (M := noM) ?_; intro N hN ops hy) | (refine gD (M := noM) ?_; intro N hN; have hy := yieldedV_eq) | (refine WPV.condK ?_; intro A hA B hB) | (refine here ?_; refine sS ?_) | refine Both.mk ?_ ?_ | ((with_reducible refine CallO.gd 65 ?_); refine CallO.frB [] Tryd.call65 (cnew_s) ?_) | ((with_reducible refine CallO.gd 62 ?_); refine CallO.frB [] Tryd.call62 (vputO_s (m := (l.length : Int)) (by omega) (by omega)) ?_) | (refine hN _ ?_; try clear hN N; try clear hy ops) | (refine hA ?_; clear hA A hB B; try simp only [hz]) | (refine hB ?_; clear hA A hB B; try simp only [hz]) | (refine gG ?_ ?_ <;> (intro hz; have h := nm hz; try (exfalso; omega)) <;> (have hz := nz hz; try subst hz)) | (rw [if_pos (show _ ∧ _ from ⟨by omega, by omega⟩)]; refine sS ?_) | refine gT ?_ | (clear hN N))
    all_goals (try unfold byV at hQ)
    all_goals (first | exact retZ hQ Tryd.results115 (Desc.re [] rfl) | exact retZN hQ Tryd.results115 (Desc.re [] rfl))
  · have lv := vput_len (n := l.length) (by omega)
    refine Sp.of_bodyE Tryd.func115 rfl ?_
    intro Q hQ
    simp only [List.replicate, List.length_cons, List.length_nil, Tryd.ntmps115, Nat.reduceAdd, Nat.reduceSub, List.cons_append, List.nil_append, go_sem]
    have hz : True := trivial
    have hy := yieldedV_eq
    have hL := True.intro
    repeat' (first | (refine WPV.seqK ?_; intro N hN) | refine gA ?_ | (refine gR (M := noM) ?_; intro N hN ops hy) | (refine gD (M := noM) ?_; intro N hN; have hy := yieldedV_eq) | (refine WPV.condK ?_; intro A hA B hB) | (refine here ?_; refine sS ?_) | refine Both.mk ?_ ?_ | ((with_reducible refine CallO.gd 65 ?_); refine CallO.frB [] Tryd.call65 (cnew_s) ?_) | ((with_reducible refine CallO.gd 62 ?_); refine CallO.frB [] Tryd.call62 (vputO_s (m := (l.length : Int)) (by omega) (by omega)) ?_) | (refine hN _ ?_; try clear hN N; try clear hy ops) | (refine hA ?_; clear hA A hB B; try simp only [hz]) | (refine hB ?_; clear hA A hB B; try simp only [hz]) | (refine gG ?_ ?_ <;> (intro hz; have h := nm hz; try (exfalso; omega)) <;> (have hz := nz hz; try subst hz)) | (rw [if_pos (show _ ∧ _ from ⟨by omega, by omega⟩)]; refine sS ?_) | refine gT ?_ | (clear hN N))
    refine WPV.loopW (α := Nat × List UInt8 × Cod Di) (fun s => l.length - s.1) (fun s => ⟨[.any, .any, .any, .any, .ptr 0 0, .own 1 (bs s.2.1) 4, .any, .any, .any, .any, .any, .any, .any, .any, .any, .any, .any, .any, .sl 6 (txs l), .sc (.int .i64 (l.length : Int)), .sc (.int .i64 ((s.1 : Nat) : Int)), .any, .any, .any, .any, .any, .any, .any, .any, .any, .any, .any, .any, .any, .any, .any, .any, .any], [.cells [.ptr 1 0, .sc (.int .i64 s.2.2.c.x), .sc (.int .i64 s.2.2.c.y), .sc (.int .i64 s.2.2.c.z)], .cells [.hs true 1 2 0 s.2.2.d.ks.length, .mp 3, .sc (.int .i64 (s.2.2.d.e : Int))], .cells (kc s.2.2.d.ks), .map (pm s.2.2.d.c s.2.2.d.l), .tail]⟩) (fun s => PJ l s.1 s.2.1 s.2.2) (0, vput l.length, Cod.new) Desc.weakA ⟨Nat.zero_le _, .nw, r_new, by dsimp only; omega, by unfold packF; rw [if_neg h4]; rfl⟩ (fun s hJ H => ?_)
    obtain ⟨k, acc, x⟩ := s
    obtain ⟨j1, ok, hr, j4, j5⟩ := hJ
    dsimp only at j1 ok hr j4 j5 H ⊢
    by_cases h : k < l.length
    · obtain ⟨t, hg0⟩ : ∃ t, l[k] = t := ⟨_, rfl⟩
      have hget : l[k]? = some t := by rw [← hg0]; exact List.getElem?_eq_getElem h
      have hwt := hw t (hg0 ▸ List.getElem_mem h)
      rw [List.drop_eq_getElem_cons h, hg0] at j5
      rcases tput_two ok hr t with ⟨hc, p1⟩ | ⟨hc, b, x', p1, ok', hr', hbl, p2⟩
      · have cp := cput_e (K := K) p1 ok (by omega)
        rw [packGo_err p1 hc] at j5
        rw [j5] at hQ
        generalize checkF t = q at *
        simp only [if_pos hc] at hQ
        clear H hg0
        obtain ⟨o, s, ⟨c1, c2, c3⟩, w⟩ := t
        dsimp only [txV] at cp
        refine loopV ?_
        have hz : True := trivial
        have hy := yieldedV_eq
        have hL := @hget
        repeat' (first | (refine WPV.seqK ?_; intro N hN) | refine gA ?_ | (refine gR (M := noM) ?_; intro N hN ops hy) | (refine gD (M := noM) ?_; intro N hN; have hy := yieldedV_eq) | (refine WPV.condK ?_; intro A hA B hB) | (refine here ?_; refine sS ?_) | refine Both.mk ?_ ?_ | ((with_reducible refine CallO.gd 67 ?_); refine CallO.frB [0, 1, 2, 3] Tryd.call67 (cp) ?_) | ((with_reducible refine CallP.gd 67 ?_); refine CallP.frB [0, 1, 2, 3] 2 Tryd.call67 (cp) ?_) | (refine hN _ ?_; try clear hN N; try clear hy ops) | (refine hA ?_; clear hA A hB B; try simp only [hz]) | (refine hB ?_; clear hA A hB B; try simp only [hz]) | (refine gG ?_ ?_ <;> (intro hz; have h := nm hz; try (exfalso; omega)) <;> (have hz := nz hz; try subst hz)) | (rw [if_pos (show _ ∧ _ from ⟨by omega, by omega⟩)]; refine sS ?_) | refine gT ?_ | (clear hN N))
        all_goals (try unfold byV at hQ)
        all_goals (first | exact retZ hQ Tryd.results115 (Desc.re [] rfl) | exact retZN hQ Tryd.results115 (Desc.re [] rfl))
      · have cp := cput_e (K := K) p1 ok (by omega)
        rw [packGo_ok p1] at j5
        have H' := H (k + 1, acc ++ b, x') ⟨h, ok', hr', by dsimp only; rw [List.length_append]; omega, by rw [j5]; dsimp only; split <;> simp_all⟩ (by dsimp only; omega)
        clear H hg0 j5
        dsimp only at H'
        obtain ⟨o, s, ⟨c1, c2, c3⟩, w⟩ := t
        dsimp only [txV] at cp
        refine loopV ?_
        have hz : True := trivial
        have hy := yieldedV_eq
        have hL := @hget
        repeat' (first | (refine WPV.seqK ?_; intro N hN) | refine gA ?_ | (refine gR (M := noM) ?_; intro N hN ops hy) | (refine gD (M := noM) ?_; intro N hN; have hy := yieldedV_eq) | (refine WPV.condK ?_; intro A hA B hB) | (refine here ?_; refine sS ?_) | refine Both.mk ?_ ?_ | ((with_reducible refine CallO.gd 67 ?_); refine CallO.frB [0, 1, 2, 3] Tryd.call67 (cp) ?_) | ((with_reducible refine CallP.gd 67 ?_); refine CallP.frB [0, 1, 2, 3] 2 Tryd.call67 (cp) ?_) | (refine hN _ ?_; try clear hN N; try clear hy ops) | (refine hA ?_; clear hA A hB B; try simp only [hz]) | (refine hB ?_; clear hA A hB B; try simp only [hz]) | (refine gG ?_ ?_ <;> (intro hz; have h := nm hz; try (exfalso; omega)) <;> (have hz := nz hz; try subst hz)) | (rw [if_pos (show _ ∧ _ from ⟨by omega, by omega⟩)]; refine sS ?_) | refine gT ?_ | (clear hN N))
        all_goals (exact rndZ (Desc.re [some 0, some 1, some 6, some 7, some 8] rfl) (H'))
    · obtain rfl : k = l.length := by omega
      rw [List.drop_length] at j5
      have e : packF l = (acc, 0) := by rw [j5]; simp [packGo]
      rw [e] at hQ
      clear H j5 e
      refine loopV ?_
      have hz : True := trivial
      have hy := yieldedV_eq
      have hL := True.intro
      repeat' (first | (refine WPV.seqK ?_; intro N hN) | refine gA ?_ | (refine gR (M := noM) ?_; intro N hN ops hy) | (refine gD (M := noM) ?_; intro N hN; have hy := yieldedV_eq) | (refine WPV.condK ?_; intro A hA B hB) | (refine here ?_; refine sS ?_) | refine Both.mk ?_ ?_ | (refine hN _ ?_; try clear hN N; try clear hy ops) | (refine hA ?_; clear hA A hB B; try simp only [hz]) | (refine hB ?_; clear hA A hB B; try simp only [hz]) | (refine gG ?_ ?_ <;> (intro hz; have h := nm hz; try (exfalso; omega)) <;> (have hz := nz hz; try subst hz)) | (rw [if_pos (show _ ∧ _ from ⟨by omega, by omega⟩)]; refine sS ?_) | refine gT ?_ | (clear hN N))
      all_goals (try unfold byV at hQ)
      all_goals (first | exact retZ hQ Tryd.results115 (Desc.re [] rfl) | exact retZN hQ Tryd.results115 (Desc.re [] rfl))
def unGo (b : List UInt8) : Nat → Nat → Cod Di → List Tx → List Tx × Int
  | 0, used, x, acc => if used ≠ b.length then ([], 3) else (acc, 0)
  | n + 1, used, x, acc => if (ttakeF dtF x (b.drop used)).1.2.2 ≠ 0 then ([], (ttakeF dtF x (b.drop used)).1.2.2) else unGo b n (used + (ttakeF dtF x (b.drop used)).1.2.1) (ttakeF dtF x (b.drop used)).2 (acc ++ [(ttakeF dtF x (b.drop used)).1.1])
def unpackF (b : List UInt8) : List Tx × Int :=
  if (tk b).2.2 ≠ 0 then ([], (tk b).2.2) else if 4 < (tk b).1.toNat then ([], 4) else unGo b (tk b).1.toNat (tk b).2.1 Cod.new []
abbrev upV (r : List Tx × Int) : V := .tup [.sl 6 (txs r.1), .sc (.int .i64 r.2)]
theorem unGo_err {b : List UInt8} {n used : Nat} {x y : Cod Di} {acc : List Tx} {t : Tx} {m : Nat} {e : Int} (h : ttakeF dtF x (b.drop used) = ((t, m, e), y)) (he : e ≠ 0) : unGo b (n + 1) used x acc = ([], e) := by
  unfold unGo; rw [h]; exact if_pos he
theorem unGo_ok {b : List UInt8} {n used : Nat} {x y : Cod Di} {acc : List Tx} {t : Tx} {m : Nat} (h : ttakeF dtF x (b.drop used) = ((t, m, 0), y)) : unGo b (n + 1) used x acc = unGo b n (used + m) y (acc ++ [t]) := by
  show (if (ttakeF dtF x (b.drop used)).1.2.2 ≠ 0 then _ else _) = _
  rw [h]; exact if_neg (by simp)
structure UJ (b : List UInt8) (n k used : Nat) (x : Cod Di) (acc : List Tx) : Prop where
  hk : k ≤ n
  hu : used ≤ b.length
  ok : x.d.Ok
  hr : rightF x.c = true
  len : acc.length = k
  eq : unpackF b = unGo b (n - k) used x acc
set_option maxRecDepth 100000 in
set_option maxHeartbeats 2000000 in
theorem unpack_s (b : List UInt8) (hl : b.length ≤ 1000000) : Sp Tryd.prog K 117 [.sl 1 (bs b)] [] fun u hh => u = upV (unpackF b) ∧ hh = [] := by
  obtain ⟨p, u, e, h1⟩ : ∃ p u e, tk b = (p, u, e) := ⟨_, _, _, rfl⟩
  have l1 := tk_le b
  have hu : unpackF b = if e ≠ 0 then ([], e) else if 4 < p.toNat then ([], 4) else unGo b p.toNat u Cod.new [] := by unfold unpackF; rw [h1]
  rw [h1] at l1
  dsimp only at l1
  have hp := UInt64.toNat_lt p
  by_cases hb : e ≠ 0 ∨ 4 < p.toNat
  · rw [hu]
    clear hu
    refine Sp.of_bodyE Tryd.func117 rfl ?_
    intro Q hQ
    simp only [List.replicate, List.length_cons, List.length_nil, Tryd.ntmps117, Nat.reduceAdd, Nat.reduceSub, List.cons_append, List.nil_append, go_sem]
    have hz : True := trivial
    have hy := yieldedV_eq
    have hL := True.intro
    repeat' (first | (refine WPV.seqK ?_; intro N hN) | refine gA ?_ | (refine gR (M := noM) ?_; intro N hN ops hy) | (refine gD (M := noM) ?_; intro N hN; have hy := yieldedV_eq) | (refine WPV.condK ?_; intro A hA B hB) | (refine here ?_; refine sS ?_) | refine Both.mk ?_ ?_ | ((with_reducible refine CallO.gd 65 ?_); refine CallO.frB [] Tryd.call65 (cnew_s) ?_) | ((with_reducible refine CallO.gd 77 ?_); refine CallO.toB Tryd.call77 (vtake_s h1 (by omega) _) ?_) | ((with_reducible refine CallP.gd 77 ?_); refine CallP.toB Tryd.call77 (vtake_s h1 (by omega) _) ?_) | (refine hN _ ?_; try clear hN N; try clear hy ops) | (refine hA ?_; clear hA A hB B; try simp only [hz]) | (refine hB ?_; clear hA A hB B; try simp only [hz]) | (refine gG ?_ ?_ <;> (intro hz; have h := nm hz; try (exfalso; omega)) <;> (have hz := nz hz; try subst hz)) | (rw [if_pos (show _ ∧ _ from ⟨by omega, by omega⟩)]; refine sS ?_) | refine gT ?_ | (clear hN N))
    all_goals (try (first | exact retZ hQ Tryd.results117 (Desc.re [] rfl) | exact retZN hQ Tryd.results117 (Desc.re [] rfl)))
  have hu2 : unpackF b = unGo b p.toNat u Cod.new [] := by rw [hu, if_neg (by omega), if_neg (by omega)]
  clear hu
  refine Sp.of_bodyE Tryd.func117 rfl ?_
  intro Q hQ
  simp only [List.replicate, List.length_cons, List.length_nil, Tryd.ntmps117, Nat.reduceAdd, Nat.reduceSub, List.cons_append, List.nil_append, go_sem]
  have hz : True := trivial
  have hy := yieldedV_eq
  have hL := True.intro
  repeat' (first | (refine WPV.seqK ?_; intro N hN) | refine gA ?_ | (refine gR (M := noM) ?_; intro N hN ops hy) | (refine gD (M := noM) ?_; intro N hN; have hy := yieldedV_eq) | (refine WPV.condK ?_; intro A hA B hB) | (refine here ?_; refine sS ?_) | refine Both.mk ?_ ?_ | ((with_reducible refine CallO.gd 65 ?_); refine CallO.frB [] Tryd.call65 (cnew_s) ?_) | ((with_reducible refine CallO.gd 77 ?_); refine CallO.toB Tryd.call77 (vtake_s h1 (by omega) _) ?_) | ((with_reducible refine CallP.gd 77 ?_); refine CallP.toB Tryd.call77 (vtake_s h1 (by omega) _) ?_) | (refine hN _ ?_; try clear hN N; try clear hy ops) | (refine hA ?_; clear hA A hB B; try simp only [hz]) | (refine hB ?_; clear hA A hB B; try simp only [hz]) | (refine gG ?_ ?_ <;> (intro hz; have h := nm hz; try (exfalso; omega)) <;> (have hz := nz hz; try subst hz)) | (rw [if_pos (show _ ∧ _ from ⟨by omega, by omega⟩)]; refine sS ?_) | refine gT ?_ | (clear hN N))
  refine WPV.loopW (α := Nat × Nat × Cod Di × List Tx) (fun s => p.toNat - s.1) (fun s => ⟨[.sl 1 (bs b), .any, .any, .any, .any, .sc (.int .i64 (s.2.1 : Int)), .any, .ptr 0 0, .own 6 (txs s.2.2.2) 4, .any, .any, .any, .any, .any, .any, .any, .any, .any, .any, .any, .any, .any, .any, .any, .any, .any, .sc (.int .u64 (p.toNat : Int)), .sc (.int .u64 ((s.1 : Nat) : Int)), .any, .any, .any, .any, .any, .any, .any, .any, .any, .any, .any, .any, .any, .any, .any, .any, .any, .any, .any, .any, .any, .any, .any, .any, .any, .any], [.cells [.ptr 1 0, .sc (.int .i64 s.2.2.1.c.x), .sc (.int .i64 s.2.2.1.c.y), .sc (.int .i64 s.2.2.1.c.z)], .cells [.hs true 1 2 0 s.2.2.1.d.ks.length, .mp 3, .sc (.int .i64 (s.2.2.1.d.e : Int))], .cells (kc s.2.2.1.d.ks), .map (pm s.2.2.1.d.c s.2.2.1.d.l), .tail]⟩) (fun s => UJ b p.toNat s.1 s.2.1 s.2.2.1 s.2.2.2) (0, u, Cod.new, []) ((Desc.own0 (es := []) 8 6 rfl (.inr ⟨rfl, rfl⟩)).trans Desc.weakA) ⟨Nat.zero_le _, l1, .nw, r_new, rfl, hu2⟩ (fun s hJ H => ?_)
  obtain ⟨k, used, x, acc⟩ := s
  obtain ⟨j1, j2, ok, hr, j5, j6⟩ := hJ
  dsimp only at j1 j2 ok hr j5 j6 H ⊢
  by_cases h : k < p.toNat
  · rw [show p.toNat - k = (p.toNat - (k + 1)) + 1 by omega] at j6
    rcases ttake_two ok hr (b.drop used) with ⟨e', he, p1⟩ | ⟨t, m, x', p1, p2, n1, n2, hc, ok', hr', hw⟩
    · have cp := ctake_e (K := K) p1 ok (by rw [List.length_drop]; omega)
      rw [unGo_err p1 he] at j6
      rw [j6] at hQ
      clear H
      refine loopV ?_
      have hz : True := trivial
      have hy := yieldedV_eq
      have hL := True.intro
      repeat' (first | (refine WPV.seqK ?_; intro N hN) | refine gA ?_ | (refine gR (M := noM) ?_; intro N hN ops hy) | (refine gD (M := noM) ?_; intro N hN; have hy := yieldedV_eq) | (refine WPV.condK ?_; intro A hA B hB) | (refine here ?_; refine sS ?_) | refine Both.mk ?_ ?_ | ((with_reducible refine CallO.gd 70 ?_); refine CallO.frB [0, 1, 2, 3] Tryd.call70 (cp) ?_) | ((with_reducible refine CallP.gd 70 ?_); refine CallP.frB [0, 1, 2, 3] 3 Tryd.call70 (cp) ?_) | (refine hN _ ?_; try clear hN N; try clear hy ops) | (refine hA ?_; clear hA A hB B; try simp only [hz]) | (refine hB ?_; clear hA A hB B; try simp only [hz]) | (refine gG ?_ ?_ <;> (intro hz; have h := nm hz; try (exfalso; omega)) <;> (have hz := nz hz; try subst hz)) | (rw [if_pos (show _ ∧ _ from ⟨by omega, by omega⟩)]; refine sS ?_) | refine gT ?_ | (clear hN N))
      all_goals (first | exact retZ hQ Tryd.results117 (Desc.re [] rfl) | exact retZN hQ Tryd.results117 (Desc.re [] rfl))
    · have cp := ctake_e (K := K) p1 ok (by rw [List.length_drop]; omega)
      rw [unGo_ok p1] at j6
      rw [List.length_drop] at n2
      have H' := H (k + 1, used + m, x', acc ++ [t]) ⟨h, by dsimp only; omega, ok', hr', by simp [j5], j6⟩ (by dsimp only; omega)
      clear H j6
      dsimp only at H'
      obtain ⟨o, s, ⟨c1, c2, c3⟩, w⟩ := t
      try dsimp only [ttV, txV] at cp
      refine loopV ?_
      have hz : True := trivial
      have hy := yieldedV_eq
      have hL := True.intro
      repeat' (first | (refine WPV.seqK ?_; intro N hN) | refine gA ?_ | (refine gR (M := noM) ?_; intro N hN ops hy) | (refine gD (M := noM) ?_; intro N hN; have hy := yieldedV_eq) | (refine WPV.condK ?_; intro A hA B hB) | (refine here ?_; refine sS ?_) | refine Both.mk ?_ ?_ | ((with_reducible refine CallO.gd 70 ?_); refine CallO.frB [0, 1, 2, 3] Tryd.call70 (cp) ?_) | ((with_reducible refine CallP.gd 70 ?_); refine CallP.frB [0, 1, 2, 3] 3 Tryd.call70 (cp) ?_) | (refine hN _ ?_; try clear hN N; try clear hy ops) | (refine hA ?_; clear hA A hB B; try simp only [hz]) | (refine hB ?_; clear hA A hB B; try simp only [hz]) | (refine gG ?_ ?_ <;> (intro hz; have h := nm hz; try (exfalso; omega)) <;> (have hz := nz hz; try subst hz)) | (rw [if_pos (show _ ∧ _ from ⟨by omega, by omega⟩)]; refine sS ?_) | refine gT ?_ | (clear hN N))
      have hL := And.intro @txs_app (@txs_one)
      all_goals (exact rndZ (Desc.re [some 0, some 5, some 6, some 7, some 9] rfl) (H'))
  · obtain hkn : k = p.toNat := by omega
    rw [hkn, Nat.sub_self] at j6
    have e2 : unpackF b = if used ≠ b.length then ([], 3) else (acc, 0) := j6
    rw [e2] at hQ
    clear H j6 e2
    refine loopV ?_
    have hz : True := trivial
    have hy := yieldedV_eq
    have hL := True.intro
    repeat' (first | (refine WPV.seqK ?_; intro N hN) | refine gA ?_ | (refine gR (M := noM) ?_; intro N hN ops hy) | (refine gD (M := noM) ?_; intro N hN; have hy := yieldedV_eq) | (refine WPV.condK ?_; intro A hA B hB) | (refine here ?_; refine sS ?_) | refine Both.mk ?_ ?_ | (refine hN _ ?_; try clear hN N; try clear hy ops) | (refine hA ?_; clear hA A hB B; try simp only [hz]) | (refine hB ?_; clear hA A hB B; try simp only [hz]) | (refine gG ?_ ?_ <;> (intro hz; have h := nm hz; try (exfalso; omega)) <;> (have hz := nz hz; try subst hz)) | (rw [if_pos (show _ ∧ _ from ⟨by omega, by omega⟩)]; refine sS ?_) | refine gT ?_ | (clear hN N))
    all_goals (first | exact retZ hQ Tryd.results117 (Desc.re [] rfl) | exact retZN hQ Tryd.results117 (Desc.re [] rfl))
def rowOk (a b : Tx) : Bool := if b.o = a.o ∧ a.s < b.s ∧ b.s - 1 = a.s then true else false
def rowF : List Tx → Bool
  | a :: b :: l => rowOk a b && rowF (b :: l)
  | _ => true
set_option maxRecDepth 100000 in
set_option maxHeartbeats 2000000 in
theorem row_s (l : List Tx) (hl : l.length ≤ 1000000) (hw : ∀ t ∈ l, -9223372036854775808 ≤ t.s ∧ t.s < 9223372036854775808) : Sp Tryd.prog K 142 [.sl 6 (txs l)] [] fun u hh => u = .sc (.bool (rowF l)) ∧ hh = [] := by
  refine Sp.of_bodyE Tryd.func142 rfl ?_
  intro Q hQ
  simp only [List.replicate, List.length_cons, List.length_nil, Tryd.ntmps142, Nat.reduceAdd, Nat.reduceSub, List.cons_append, List.nil_append, go_sem]
  have hz : True := trivial
  have hy := yieldedV_eq
  have hL := True.intro
  repeat' (first | (refine WPV.seqK ?_; intro N hN) | refine gA ?_ | (refine gR (M := noM) ?_; intro N hN ops hy) | (refine gD (M := noM) ?_; intro N hN; have hy := yieldedV_eq) | (refine WPV.condK ?_; intro A hA B hB) | (refine here ?_; refine sS ?_) | refine Both.mk ?_ ?_ | (refine hN _ ?_; try clear hN N; try clear hy ops) | (refine hA ?_; clear hA A hB B; try simp only [hz]) | (refine hB ?_; clear hA A hB B; try simp only [hz]) | (refine gG ?_ ?_ <;> (intro hz; have h := nm hz; try (exfalso; omega)) <;> (have hz := nz hz; try subst hz)) | (rw [if_pos (show _ ∧ _ from ⟨by omega, by omega⟩)]; refine sS ?_) | refine gT ?_ | (clear hN N))
  refine WPV.loopW (α := Nat) (fun k => l.length - k) (fun k => ⟨[.sl 6 (txs l), .any, .any, .sc (.int .i64 ((k : Nat) : Int)), .any, .any, .any, .any, .any, .any, .any, .any, .any, .any, .any, .any, .any, .any, .any, .any, .any, .any, .any, .any, .any, .any, .any, .any, .any, .any, .any, .any, .any, .any, .any, .any, .any, .any, .any, .any, .any, .any, .any, .any, .any, .any, .any, .any, .any, .any, .any], []⟩) (fun k => 1 ≤ k ∧ rowF l = rowF (l.drop (k - 1))) 1 Desc.weakA ⟨Nat.le_refl _, rfl⟩ (fun k hJ H => ?_)
  obtain ⟨hk1, hJ⟩ := hJ
  by_cases h : k < l.length
  · obtain ⟨a, hg0⟩ : ∃ t, l[k - 1] = t := ⟨_, rfl⟩
    have hget : l[k - 1]? = some a := by rw [← hg0]; exact List.getElem?_eq_getElem (by omega)
    obtain ⟨b, hg1⟩ : ∃ t, l[k] = t := ⟨_, rfl⟩
    have hget1 : l[k]? = some b := by rw [← hg1]; exact List.getElem?_eq_getElem h
    have ha := hw a (hg0 ▸ List.getElem_mem (by omega))
    have hb := hw b (hg1 ▸ List.getElem_mem h)
    have hd : l.drop (k - 1) = a :: b :: l.drop (k + 1) := by
      rw [List.drop_eq_getElem_cons (by omega), hg0, show k - 1 + 1 = k by omega, List.drop_eq_getElem_cons h, hg1]
    have hd2 : l.drop k = b :: l.drop (k + 1) := by rw [List.drop_eq_getElem_cons h, hg1]
    rw [hd] at hJ
    have hk2 : ((k : Int) - 1).toNat = k - 1 := by omega
    have hJ2 : rowF l = (rowOk a b && rowF (b :: l.drop (k + 1))) := hJ
    by_cases hr : b.o = a.o ∧ a.s < b.s ∧ b.s - 1 = a.s
    · have e : rowOk a b = true := if_pos hr
      rw [e, Bool.true_and, ← hd2] at hJ2
      have H' := H (k + 1) ⟨by omega, by rw [hJ2, Nat.add_sub_cancel]⟩ (by omega)
      clear H hJ hJ2 hg0 hg1 hd hd2 e
      refine loopV ?_
      have hz : True := trivial
      have hy := yieldedV_eq
      have hL := And.intro @hget (And.intro @hget1 (@hk2))
      repeat' (first | (refine WPV.seqK ?_; intro N hN) | refine gA ?_ | (refine gR (M := noM) ?_; intro N hN ops hy) | (refine gD (M := noM) ?_; intro N hN; have hy := yieldedV_eq) | (refine WPV.condK ?_; intro A hA B hB) | (refine here ?_; refine sS ?_) | refine Both.mk ?_ ?_ | (refine hN _ ?_; try clear hN N; try clear hy ops) | (refine hA ?_; clear hA A hB B; try simp only [hz]) | (refine hB ?_; clear hA A hB B; try simp only [hz]) | (refine gG ?_ ?_ <;> (intro hz; have h := nm hz; try (exfalso; omega)) <;> (have hz := nz hz; try subst hz)) | (rw [if_pos (show _ ∧ _ from ⟨by omega, by omega⟩)]; refine sS ?_) | refine gT ?_ | (clear hN N))
      all_goals (exact rndZ (Desc.re [] rfl) (H'))
    · have e : rowOk a b = false := if_neg hr
      rw [e, Bool.false_and] at hJ2
      rw [hJ2] at hQ
      clear H hJ hJ2 hg0 hg1 hd hd2 e
      refine loopV ?_
      have hz : True := trivial
      have hy := yieldedV_eq
      have hL := And.intro @hget (And.intro @hget1 (@hk2))
      repeat' (first | (refine WPV.seqK ?_; intro N hN) | refine gA ?_ | (refine gR (M := noM) ?_; intro N hN ops hy) | (refine gD (M := noM) ?_; intro N hN; have hy := yieldedV_eq) | (refine WPV.condK ?_; intro A hA B hB) | (refine here ?_; refine sS ?_) | refine Both.mk ?_ ?_ | (refine hN _ ?_; try clear hN N; try clear hy ops) | (refine hA ?_; clear hA A hB B; try simp only [hz]) | (refine hB ?_; clear hA A hB B; try simp only [hz]) | (refine gG ?_ ?_ <;> (intro hz; have h := nm hz; try (exfalso; omega)) <;> (have hz := nz hz; try subst hz)) | (rw [if_pos (show _ ∧ _ from ⟨by omega, by omega⟩)]; refine sS ?_) | refine gT ?_ | (clear hN N))
      all_goals (first | exact retZ hQ Tryd.results142 (Desc.re [] rfl) | exact retZN hQ Tryd.results142 (Desc.re [] rfl))
  · have e : rowF l = true := by
      rw [hJ]
      have : (l.drop (k - 1)).length ≤ 1 := by rw [List.length_drop]; omega
      match l.drop (k - 1), this with
      | [], _ => rfl
      | [a], _ => rfl
    rw [e] at hQ
    clear H hJ e
    refine loopV ?_
    have hz : True := trivial
    have hy := yieldedV_eq
    have hL := True.intro
    repeat' (first | (refine WPV.seqK ?_; intro N hN) | refine gA ?_ | (refine gR (M := noM) ?_; intro N hN ops hy) | (refine gD (M := noM) ?_; intro N hN; have hy := yieldedV_eq) | (refine WPV.condK ?_; intro A hA B hB) | (refine here ?_; refine sS ?_) | refine Both.mk ?_ ?_ | (refine hN _ ?_; try clear hN N; try clear hy ops) | (refine hA ?_; clear hA A hB B; try simp only [hz]) | (refine hB ?_; clear hA A hB B; try simp only [hz]) | (refine gG ?_ ?_ <;> (intro hz; have h := nm hz; try (exfalso; omega)) <;> (have hz := nz hz; try subst hz)) | (rw [if_pos (show _ ∧ _ from ⟨by omega, by omega⟩)]; refine sS ?_) | refine gT ?_ | (clear hN N))
    all_goals (first | exact retZ hQ Tryd.results142 (Desc.re [] rfl) | exact retZN hQ Tryd.results142 (Desc.re [] rfl))
end Go.Proofs.YtgfnpcmehnjopaaDoor
end
section
namespace Go.Proofs.YtgfnpcmehnjopaaDoor
open Go Go.RowKit
set_option linter.unusedVariables false
set_option linter.unusedSimpArgs false
theorem tput_cases {x : Cod Di} (t : Tx) : (checkF t ≠ 0 ∧ tputF dpF x t = (([], checkF t), x)) ∨ (checkF t = 0 ∧ tputF dpF x t = (((tputF dpF x t).1.1, 0), (tputF dpF x t).2)) := by
  by_cases hc : checkF t = 0
  · refine .inr ⟨hc, ?_⟩
    have : (tputF dpF x t).1.2 = 0 := by unfold tputF; rw [if_neg (by rw [hc]; simp)]
    exact Prod.ext (Prod.ext rfl this) rfl
  · refine .inl ⟨hc, ?_⟩
    unfold tputF; rw [if_pos hc]
theorem packGo_all : ∀ (l : List Tx) (x : Cod Di), (packGo x l).2 = 0 → ∀ t ∈ l, checkF t = 0
  | [], _, _, t, ht => by cases ht
  | u :: l, x, h, t, ht => by
    rcases tput_cases (x := x) u with ⟨hc, p⟩ | ⟨hc, p⟩
    · rw [packGo_err p hc] at h; exact absurd h hc
    · rw [packGo_ok p] at h
      by_cases h2 : (packGo (tputF dpF x u).2 l).2 ≠ 0
      · rw [if_pos h2] at h; exact absurd h h2
      · rcases List.mem_cons.1 ht with rfl | ht
        · exact hc
        · exact packGo_all l _ (Decidable.not_not.1 h2) t ht
theorem unGo_pack : ∀ (l : List Tx) {x : Cod Di} {q pre : List UInt8} (acc : List Tx), x.d.Ok → rightF x.c = true → packGo x l = (q, 0) → unGo (pre ++ q) l.length pre.length x acc = (acc ++ l, 0)
  | [], x, q, pre, acc, ok, hr, h => by
    have : q = [] := by unfold packGo at h; simpa using h.symm
    subst this
    simp [unGo]
  | t :: l, x, q, pre, acc, ok, hr, h => by
    rcases tput_cases (x := x) t with ⟨hc, p⟩ | ⟨hc, p⟩
    · rw [packGo_err p hc] at h; simp only [Prod.mk.injEq] at h; exact absurd h.2 hc
    · rw [packGo_ok p] at h
      by_cases h2 : (packGo (tputF dpF x t).2 l).2 ≠ 0
      · rw [if_pos h2] at h; simp only [Prod.mk.injEq] at h; exact absurd h.2 h2
      · rw [if_neg h2] at h
        simp only [Prod.mk.injEq, and_true] at h
        have hd : (pre ++ q).drop pre.length = (tputF dpF x t).1.1 ++ (packGo (tputF dpF x t).2 l).1 := by rw [List.drop_left, h]
        have ht := take_put_t ok hr hc (packGo (tputF dpF x t).2 l).1
        rw [← hd] at ht
        rw [List.length_cons, unGo_ok ht]
        have ih := unGo_pack l (x := (tputF dpF x t).2) (q := (packGo (tputF dpF x t).2 l).1) (pre := pre ++ (tputF dpF x t).1.1) (acc ++ [t]) (tput_ok ok t) (tput_r hr t) (Prod.ext rfl (Decidable.not_not.1 h2))
        rw [List.length_append, List.append_assoc, h] at ih
        rw [ih]; simp
theorem unpack_pack {l : List Tx} (h : (packF l).2 = 0) : unpackF (packF l).1 = (l, 0) := by
  unfold packF at h ⊢
  by_cases h4 : 4 < l.length
  · rw [if_pos h4] at h; exact absurd h (by decide)
  rw [if_neg h4] at h ⊢
  by_cases h2 : (packGo Cod.new l).2 ≠ 0
  · rw [if_pos h2] at h; exact absurd h h2
  rw [if_neg h2]
  have ht := tk_nat l.length (by omega) (packGo Cod.new l).1
  have e : (UInt64.ofNat l.length).toNat = l.length := by rw [UInt64.toNat_ofNat']; omega
  unfold unpackF
  dsimp only
  rw [ht]
  dsimp only
  rw [if_neg (by simp), e, if_neg h4]
  have := unGo_pack l (x := Cod.new) (pre := vput l.length) [] .nw r_new (Prod.ext rfl (Decidable.not_not.1 h2))
  simpa using this
theorem pack_unGo {b : List UInt8} : ∀ (n : Nat) {used : Nat} {x : Cod Di} {acc r : List Tx}, x.d.Ok → rightF x.c = true → used ≤ b.length → unGo b n used x acc = (r, 0) → ∃ l, r = acc ++ l ∧ l.length = n ∧ packGo x l = (b.drop used, 0)
  | 0, used, x, acc, r, ok, hr, hu, h => by
    unfold unGo at h
    by_cases h1 : used ≠ b.length
    · rw [if_pos h1] at h; simp at h
    · rw [if_neg h1] at h
      simp only [Prod.mk.injEq, and_true] at h
      exact ⟨[], by simp [h], rfl, by rw [Decidable.not_not.1 h1, List.drop_length]; rfl⟩
  | n + 1, used, x, acc, r, ok, hr, hu, h => by
    rcases ttake_two ok hr (b.drop used) with ⟨e', he, p1⟩ | ⟨t, m, x', p1, p2, n1, n2, hc, ok', hr', hw⟩
    · rw [unGo_err p1 he] at h; simp only [Prod.mk.injEq] at h; exact absurd h.2 he
    · rw [unGo_ok p1] at h
      rw [List.length_drop] at n2
      obtain ⟨l, e1, e2, e3⟩ := pack_unGo n ok' hr' (by omega) h
      refine ⟨t :: l, by rw [e1]; simp, by simp [e2], ?_⟩
      rw [packGo_ok p2, e3, if_neg (by simp)]
      simp only [Prod.mk.injEq, and_true]
      rw [← List.drop_drop, List.take_append_drop]
theorem pack_unpack {b : List UInt8} {l : List Tx} (h : unpackF b = (l, 0)) : packF l = (b, 0) ∧ l.length ≤ 4 ∧ ∀ t ∈ l, checkF t = 0 := by
  unfold unpackF at h
  by_cases h1 : (tk b).2.2 ≠ 0
  · rw [if_pos h1] at h; simp only [Prod.mk.injEq] at h; exact absurd h.2 h1
  rw [if_neg h1] at h
  by_cases h4 : 4 < (tk b).1.toNat
  · rw [if_pos h4] at h; simp at h
  rw [if_neg h4] at h
  obtain ⟨k1, k2, k3⟩ := tk_ok (Decidable.not_not.1 h1)
  obtain ⟨l', e1, e2, e3⟩ := pack_unGo _ .nw r_new k2 h
  have e1 : l = l' := by simpa using e1
  subst e1
  refine ⟨?_, by omega, packGo_all l Cod.new (by rw [e3])⟩
  unfold packF
  rw [if_neg (by omega), e3, if_neg (by simp), e2, k3]
  simp only [List.take_append_drop]
end Go.Proofs.YtgfnpcmehnjopaaDoor
end
section
namespace Go.Proofs.YtgfnpcmehnjopaaDoor
open Go Go.RowKit
set_option linter.unusedVariables false
set_option linter.unusedSimpArgs false
variable {F : Fr} {P : Program} {M : Oper → TypeId → Bool} {K : Nat → Obj → Prop} {n0 : Nat}
abbrev Runner := FuncId → List V → List Ho → Option (V × List Ho)
def Right (P : Program) (K : Nat → Obj → Prop) (call : Runner) : Prop :=
  ∀ f vs h v h', call f vs h = some (v, h') → Enters P f ∧ Sp P K f vs h fun u hh => u = v ∧ hh = h'
def xRes (call : Runner) (st : Sv) (dst : Option Tmp) : Res → Option Sv
  | .val v h' => some ⟨putV st.tm dst v, trimY h'⟩
  | .call f vs => match call f vs st.h with
    | some (v, h') => some ⟨putV st.tm dst v, h'⟩
    | none => none
  | .no => none
def xOps (P : Program) (M : Oper → TypeId → Bool) (call : Runner) (ops : Array Oper) : List Oper → Sv → Option Sv
  | [], st => some st
  | o :: l, st => match wantedV ops st.tm o with
    | some true => match xRes call st o.dst (opV P (M o) st.tm (st.h ++ [.yet]) st.h.length o) with
      | some st' => xOps P M call ops l st'
      | none => none
    | some false => xOps P M call ops l ⟨putV st.tm o.dst .undef, st.h⟩
    | none => none
mutual
def refsV (p : Nat → Bool) : V → Bool
  | .d _ => true
  | .agg cs => refsL p cs
  | .tup cs => refsL p cs
  | .own _ _ t => p t
  | .full _ _ => true
  | .ptr o _ => p o
  | .ep _ _ => true
  | .hs _ _ o _ _ => p o
  | .mp o => p o
  | .fn _ cs => refsL p cs
  | .fnb _ cs => refsL p cs
  | .any => true
  | .ub => true
def refsL (p : Nat → Bool) : List V → Bool
  | [] => true
  | v :: vs => refsV p v && refsL p vs
end
def refsO (p : Nat → Bool) : Ho → Bool
  | .cells cs => refsL p cs
  | .map m => m.es.all fun e => refsV p e.val
  | _ => true
mutual
theorem renV_back {g k : Nat → Nat} {p : Nat → Bool} (h : ∀ i, p i = true → g (k i) = i) : ∀ v : V, refsV p v = true → renV g (renV k v) = v
  | .d x, _ => rfl
  | .agg cs, hp => by simp only [refsV] at hp; simp only [renV]; rw [renL_back h cs hp]
  | .tup cs, hp => by simp only [refsV] at hp; simp only [renV]; rw [renL_back h cs hp]
  | .own _ _ t, hp => by simp only [refsV] at hp; simp only [renV]; rw [h t hp]
  | .full _ _, _ => rfl
  | .ptr o _, hp => by simp only [refsV] at hp; simp only [renV]; rw [h o hp]
  | .ep _ _, _ => rfl
  | .hs _ _ o _ _, hp => by simp only [refsV] at hp; simp only [renV]; rw [h o hp]
  | .mp o, hp => by simp only [refsV] at hp; simp only [renV]; rw [h o hp]
  | .fn _ cs, hp => by simp only [refsV] at hp; simp only [renV]; rw [renL_back h cs hp]
  | .fnb _ cs, hp => by simp only [refsV] at hp; simp only [renV]; rw [renL_back h cs hp]
  | .any, _ => rfl
  | .ub, _ => rfl
theorem renL_back {g k : Nat → Nat} {p : Nat → Bool} (h : ∀ i, p i = true → g (k i) = i) : ∀ l : List V, refsL p l = true → renL g (renL k l) = l
  | [], _ => rfl
  | v :: vs, hp => by
    simp only [refsL, Bool.and_eq_true] at hp
    simp only [renL]
    rw [renV_back h v hp.1, renL_back h vs hp.2]
end
mutual
def nosV : V → List Nat
  | .agg cs => nosL cs
  | .tup cs => nosL cs
  | .own _ _ t => [t]
  | .ptr o _ => [o]
  | .hs _ _ o _ _ => [o]
  | .mp o => [o]
  | .fn _ cs => nosL cs
  | .fnb _ cs => nosL cs
  | _ => []
def nosL : List V → List Nat
  | [] => []
  | v :: vs => nosV v ++ nosL vs
end
def nosO : Ho → List Nat
  | .cells cs => nosL cs
  | .map m => nosL (m.es.map (·.val))
  | _ => []
def reach (h : List Ho) : Nat → List Nat → List Nat → List Nat
  | 0, _, acc => acc
  | k + 1, [], acc => acc
  | k + 1, i :: l, acc => if acc.contains i then reach h k l acc else match h[i]? with
    | some o => reach h k (nosO o ++ l) (acc ++ [i])
    | none => reach h k l acc
def idxOf (ρ : List Nat) (i : Nat) : Nat := ρ.idxOf i
def handed (ρ : List Nat) (vs : List V) (h : List Ho) : Option (List V × List Ho) :=
  match pickH h ρ with
  | some os => if decide ρ.Nodup && (refsL ρ.contains vs && os.all (refsO ρ.contains)) then some (renL ρ.idxOf vs, os.map (renO ρ.idxOf)) else none
  | none => none
def xDraw (P : Program) (M : Oper → TypeId → Bool) (call : Runner) (ops : Array Oper) : List Oper → List V → List Ho → List (List Nat × List Nat) → Option Sv
  | [], tm, h, ids => match okOrd ops ids.reverse with
    | true => some ⟨tm, h⟩
    | false => none
  | o :: l, tm, h, ids => match wantedV ops tm o with
    | none => none
    | some false => xDraw P M call ops l (putV tm o.dst .undef) h (([], []) :: ids)
    | some true => match opL P (M o) tm o with
      | .pure v => xDraw P M call ops l (putV tm o.dst v) h (([], []) :: ids)
      | .read i k => match (h[i]?).bind k with
        | some v => xDraw P M call ops l (putV tm o.dst v) h (([i], []) :: ids)
        | none => none
      | .write i k => match (h[i]?).bind k with
        | some (v, ob) => xDraw P M call ops l (putV tm o.dst v) (h.set i ob) (([i], [i]) :: ids)
        | none => none
      | .new v ob => xDraw P M call ops l (putV tm o.dst (v h.length)) (h ++ [ob]) (([h.length], [h.length]) :: ids)
      | .app t v => match h[t]? with
        | some .tail => xDraw P M call ops l (putV tm o.dst (v h.length)) (((h ++ [Ho.yet]).set t .dead).set h.length .tail) (([t, h.length], [t, h.length]) :: ids)
        | _ => none
      | .call f vs => match handed (reach h 1000 (nosL vs) []) vs h with
        | some (vs', hl) => match call f vs' hl with
          | some (v, hl') =>
            if (reach h 1000 (nosL vs) []).length ≤ hl'.length ∧ decide (reach h 1000 (nosL vs) [] ++ frs h.length (hl'.length - (reach h 1000 (nosL vs) []).length)).Nodup = true then
              xDraw P M call ops l (putV tm o.dst (renV (gB (reach h 1000 (nosL vs) [] ++ frs h.length (hl'.length - (reach h 1000 (nosL vs) []).length)) 0) v))
                (wrs (padY h (hl'.length - (reach h 1000 (nosL vs) []).length)) ((reach h 1000 (nosL vs) [] ++ frs h.length (hl'.length - (reach h 1000 (nosL vs) []).length)).zip (hl'.map (renO (gB (reach h 1000 (nosL vs) [] ++ frs h.length (hl'.length - (reach h 1000 (nosL vs) []).length)) 0)))))
                ((reach h 1000 (nosL vs) [] ++ frs h.length (hl'.length - (reach h 1000 (nosL vs) []).length), ((reach h 1000 (nosL vs) [] ++ frs h.length (hl'.length - (reach h 1000 (nosL vs) []).length)).zip (hl'.map (renO (gB (reach h 1000 (nosL vs) [] ++ frs h.length (hl'.length - (reach h 1000 (nosL vs) []).length)) 0)))).map (·.1)) :: ids)
            else none
          | none => none
        | none => none
      | .no => none
def cvM (M : Oper → TypeId → Bool) (ops : Array Oper) : Oper → TypeId → Bool := fun o t => M o t || match o.op, o.dst with
  | .buildSlice _ _ _, some d => ops.any fun o' => match o'.op with
    | .convert s s' (.tmp d') => s == t && s' == t && d' == d
    | _ => false
  | _, _ => false
def xCode (P : Program) (M : Oper → TypeId → Bool) (call : Runner) : Nat → Code → Sv → Option (Exit × Sv)
  | 0, _, _ => none
  | n + 1, .skip, st => some (.normal, st)
  | n + 1, .label _, st => some (.normal, st)
  | n + 1, .exit id, st => some (.exit id, st)
  | n + 1, .ret, st => some (.ret, st)
  | n + 1, .scope x, st => xCode P M call n x st
  | n + 1, .block id x, st => match xCode P M call n x st with
    | some (.exit id', st') => if id' = id then some (.normal, st') else some (.exit id', st')
    | r => r
  | n + 1, .seq x y, st => match xCode P M call n x st with
    | some (.normal, st') => xCode P M call n y st'
    | r => r
  | n + 1, .cond c x y, st => match evV st.tm c with
    | some (.d (.sc (.bool true))) => xCode P M call n x st
    | some (.d (.sc (.bool false))) => xCode P M call n y st
    | _ => none
  | n + 1, .loop x, st => match xCode P M call n x st with
    | some (.normal, st') => xCode P M call n (.loop x) st'
    | r => r
  | n + 1, .region _ ops false, st => match xOps P (cvM M ops) call ops ops.toList st with
    | some st' => some (.normal, st')
    | none => none
  | n + 1, .region _ ops true, st => match okR ops, P.follows .mixedOrders, xDraw P (cvM M ops) call ops ops.toList st.tm st.h [] with
    | true, true, some st' => some (.normal, st')
    | _, _, _ => none
  | _, _, _ => none
def noX : Runner := fun _ _ _ => none
def xFun (P : Program) (M : Oper → TypeId → Bool) (X : Runner) : Nat → Runner
  | 0, _, _, _ => none
  | n + 1, f, vs, h => match X f vs h with
    | some r => some r
    | none => match P.funcs[f]? with
    | some fn => match fn.body with
      | some c => match xCode P M (xFun P M X n) 100000 c ⟨vs ++ List.replicate (fn.ntmps - vs.length) .undef, h⟩ with
        | some (.normal, st) => match resultV P st fn.results.toList with
          | some v => some (v, st.h)
          | none => none
        | some (.ret, st) => match resultV P st fn.results.toList with
          | some v => some (v, st.h)
          | none => none
        | _ => none
      | none => none
    | none => none
def xTrue (P : Program) (M : Oper → TypeId → Bool) (X : Runner) (n : Nat) (f : FuncId) : Bool := match xFun P M X n f [] [] with
  | some (.d (.sc (.bool true)), _) => true
  | _ => false
end Go.Proofs.YtgfnpcmehnjopaaDoor
end
section
namespace Go.Proofs.YtgfnpcmehnjopaaDoor
open Go Go.RowKit
set_option linter.unusedVariables false
set_option linter.unusedSimpArgs false
variable {P : Program} {K : Nat → Obj → Prop}
def KT (K : Nat → Obj → Prop) : Prop := ∃ (arr : Array Value) (T : TypeId) (fr : Nat × Nat), K 1 (.cells arr T fr) ∧ ∀ i : UInt32, i.toNat < 16 → arr[(U i).toNat]? = some (.int .u32 (U (four i)))
def Knw (K : Nat → Obj → Prop) (w : World) : Prop := ∀ b x, K b x → w.heap[b]? = some x
theorem KT.tab {w : World} (h : KT K) (hk : Knw K w) : Tab w := fun i hi => by
  obtain ⟨arr, T, fr, h1, h2⟩ := h
  exact (cell_of w _ _ _).2 ⟨arr, T, fr, hk _ _ h1, h2 i hi⟩
theorem Inv.knw {F : Fr} {φ : List Pl} {w : World} {h : List Ho} (hi : Inv F φ w h) (hK : F.known = K) : Knw K w := fun b x hx => (hi.frK b x (by rw [hK]; exact hx)).1
theorem Sp.ofBK {f : FuncId} {vs : List V} {h : List Ho} {l : List UInt8}
    (hc : ∀ (F : Fr) (φ : List Pl) (w : World) (args : Array Value), Knw K w → DenL F φ w args.toList vs → Calls P f args w (RetB w l)) : Sp P K f vs h fun u hh => u = .sl 1 (bs l) ∧ hh = h := by
  intro F φ w args hK hi hd
  refine (hc F φ w args (hi.knw hK) hd).mono ?_
  rintro e w' ⟨u, rfl, ho, bel⟩
  exact ⟨_, φ, _, h, rfl, .more bel.size (fun b hb => bel.block b hb) (io_below bel), hi.more bel.size (fun b hb => bel.block b hb) (io_below bel), .d (Den.ofOwn hi bel.size ho), rfl, rfl⟩
theorem Sp.ofBEK {f : FuncId} {vs : List V} {h : List Ho} {l : List UInt8} {n : Int}
    (hc : ∀ (F : Fr) (φ : List Pl) (w : World) (args : Array Value), Knw K w → DenL F φ w args.toList vs → Calls P f args w (RetBE w l n)) : Sp P K f vs h fun u hh => u = .tup [.sl 1 (bs l), .sc (.int .i64 n)] ∧ hh = h := by
  intro F φ w args hK hi hd
  refine (hc F φ w args (hi.knw hK) hd).mono ?_
  rintro e w' ⟨u, rfl, ho, bel⟩
  refine ⟨_, φ, _, h, rfl, .more bel.size (fun b hb => bel.block b hb) (io_below bel), hi.more bel.size (fun b hb => bel.block b hb) (io_below bel), ?_, rfl, rfl⟩
  refine .tup rfl fun i r v hr hv => ?_
  match i, hr, hv with
  | 0, hr, hv => simp at hr hv; subst hr hv; exact .d (Den.ofOwn hi bel.size ho)
  | 1, hr, hv => simp at hr hv; subst hr hv; exact .d (.sc rfl)
theorem turn_s (l : List UInt8) (at_ : Int) (m : UInt32) (hl : l.length ≤ 1000000000) (ha : -9223372036854775808 ≤ at_) (hb : at_ ≤ 9223372036854775807) (h : List Ho) : Sp Tryd.prog K 41 [.sl 1 (bs l), .sc (.int .i64 at_), .sc (.int .u32 (U m))] h fun u hh => u = .sl 1 (bs (turnF at_ m l)) ∧ hh = h :=
  .ofB fun F φ w args hd => by
    obtain ⟨r, s, t, rfl, h1, h2, h3⟩ := args3 hd
    rw [h2.sc.1, h3.sc.1]
    exact turn_c r l at_ m w (den_in h1).sb hl ha hb
theorem seal_s (hK : KT K) (l : List UInt8) (hl : l.length ≤ 1000000000) (h : List Ho) : Sp Tryd.prog K 36 [.sl 1 (bs l)] h fun u hh => u = .sl 1 (bs (sealF l)) ∧ hh = h :=
  .ofBK fun F φ w args hk hd => by
    obtain ⟨r, rfl, h1⟩ := args1 hd
    exact seal_c r l w (hK.tab hk) (den_in h1).sb hl
theorem open_s (hK : KT K) (l : List UInt8) (hl : l.length ≤ 1000000000) (h : List Ho) : Sp Tryd.prog K 76 [.sl 1 (bs l)] h fun u hh => u = .tup [.sl 1 (bs (openF l).1), .sc (.int .i64 (openF l).2)] ∧ hh = h :=
  .ofBEK fun F φ w args hk hd => by
    obtain ⟨r, rfl, h1⟩ := args1 hd
    exact open_c r l w (hK.tab hk) (den_in h1).sb hl
theorem turnF_len (at_ : Int) (m : UInt32) (l : List UInt8) : (turnF at_ m l).length = l.length := turnN_len at_ m l 32
theorem sealF_len (l : List UInt8) : (sealF l).length = l.length + 4 := by simp [sealF, tail4]
theorem Wk.toD {v : V} {x : D} {vs vs' : List V} (e : toD v = some x) (h : Wk vs vs') : Wk (v :: vs) (.d x :: vs') := by
  cases v <;> simp only [Proofs.YtgfnpcmehnjopaaDoor.toD, Option.some.injEq, reduceCtorEq] at e
  · subst e; exact .same h
  · subst e; exact .own h
  · subst e; exact .full h
def bytesV (v : V) : Option (List UInt8) := match toD v with
  | some (.sl 1 es) => unbs es
  | _ => none
def crcX : Runner := fun f vs h =>
  if f = 41 then match vs with
    | [v, .d (.sc (.int .i64 a)), .d (.sc (.int .u32 m))] => match bytesV v with
      | some l => if l.length ≤ 1000000000 ∧ -9223372036854775808 ≤ a ∧ a ≤ 9223372036854775807 ∧ U (UInt32.ofNat m.toNat) = m then some (.sl 1 (bs (turnF a (UInt32.ofNat m.toNat) l)), h) else none
      | none => none
    | _ => none
  else if f = 36 then match vs with
    | [v] => match bytesV v with
      | some l => if l.length ≤ 1000000000 then some (.sl 1 (bs (sealF l)), h) else none
      | none => none
    | _ => none
  else if f = 76 then match vs with
    | [v] => match bytesV v with
      | some l => if l.length ≤ 1000000000 then some (.tup [.sl 1 (bs (openF l).1), .sc (.int .i64 (openF l).2)], h) else none
      | none => none
    | _ => none
  else none
end Go.Proofs.YtgfnpcmehnjopaaDoor
end
section
namespace Go.Proofs.YtgfnpcmehnjopaaDoor
open Go Go.RowKit
set_option linter.unusedVariables false
set_option linter.unusedSimpArgs false
def rs (l : List (List UInt8)) : List (List D) := l.map fun p => [.sl 1 (bs p)]
theorem rs_len (l : List (List UInt8)) : (rs l).length = l.length := by simp [rs]
theorem rs_get (l : List (List UInt8)) (i : Nat) : (rs l)[i]? = (l[i]?).map fun p => [.sl 1 (bs p)] := by simp [rs]
theorem rs_snoc (l : List (List UInt8)) (p : List UInt8) : rs l ++ [[.sl 1 (bs p)]] = rs (l ++ [p]) := by simp [rs]
theorem rs_take (l : List (List UInt8)) (n : Nat) : (rs l).take n = rs (l.take n) := by simp [rs]
theorem rs_drop (l : List (List UInt8)) (n : Nat) : (rs l).drop n = rs (l.drop n) := by simp [rs]
attribute [go_sem] rs_len rs_get rs_snoc rs_take rs_drop
def wrapF (p : List UInt8) : List UInt8 × Int := if 8192 < p.length then ([], 4) else (sealF (vput p.length ++ p), 0)
def nextF (b : List UInt8) : List UInt8 × Nat × Int :=
  if (tk b).2.2 ≠ 0 then ([], 0, (tk b).2.2) else if 8192 < (tk b).1.toNat then ([], 0, 4)
  else if b.length < (tk b).2.1 + (tk b).1.toNat + 4 then ([], 0, 2)
  else if (openF (b.take ((tk b).2.1 + (tk b).1.toNat + 4))).2 ≠ 0 then ([], 0, (openF (b.take ((tk b).2.1 + (tk b).1.toNat + 4))).2)
  else ((openF (b.take ((tk b).2.1 + (tk b).1.toNat + 4))).1.drop (tk b).2.1, (tk b).2.1 + (tk b).1.toNat + 4, 0)
def scanN (b : List UInt8) : Nat → List (List UInt8) → Nat → List (List UInt8) × Nat × Int
  | 0, out, used => (out, used, 0)
  | k + 1, out, used => if used = b.length then (out, used, 0) else if (nextF (b.drop used)).2.2 ≠ 0 then (out, used, (nextF (b.drop used)).2.2) else scanN b k (out ++ [(nextF (b.drop used)).1]) (used + (nextF (b.drop used)).2.1)
def scanF (b : List UInt8) : List (List UInt8) × Nat × Int := scanN b (b.length + 1) [] 0
def allN : List (List UInt8) → List UInt8 → List UInt8 × Int
  | [], b => (b, 0)
  | p :: l, b => if (wrapF p).2 ≠ 0 then ([], (wrapF p).2) else allN l (b ++ (wrapF p).1)
def allF (l : List (List UInt8)) : List UInt8 × Int := allN l []
theorem openF_ok {b : List UInt8} (h : (openF b).2 = 0) : 4 ≤ b.length ∧ (openF b).1 = b.take (b.length - 4) ∧ sealF (b.take (b.length - 4)) = b := by
  unfold openF at h ⊢
  split at h
  · simp at h
  · rename_i h4
    split at h
    · rename_i hs
      rw [if_neg h4, if_pos hs]
      exact ⟨by omega, rfl, hs⟩
    · simp at h
end Go.Proofs.YtgfnpcmehnjopaaDoor
end
section
namespace Go.Proofs.YtgfnpcmehnjopaaDoor
open Go Go.RowKit
set_option linter.unusedVariables false
set_option linter.unusedSimpArgs false
def frow (l : List (List UInt8)) : List UInt8 := (l.map fun p => (wrapF p).1).flatten
def Fits (l : List (List UInt8)) : Prop := ∀ p ∈ l, p.length ≤ 8192
theorem Fits.cons {p : List UInt8} {l : List (List UInt8)} (h : Fits (p :: l)) : p.length ≤ 8192 ∧ Fits l := ⟨h p (by simp), fun q hq => h q (by simp [hq])⟩
end Go.Proofs.YtgfnpcmehnjopaaDoor
end
section
namespace Go.Proofs.YtgfnpcmehnjopaaDoor
open Go Go.RowKit
set_option linter.unusedVariables false
set_option linter.unusedSimpArgs false
structure Msg where
  k : Int
  o : Int
  f : Int
  t : Int
  l : List Tx
def Msg.z : Msg := ⟨0, 0, 0, 0, []⟩
abbrev msgV (m : Msg) : V := .agg [.sc (.int .i64 m.k), .sc (.int .i64 m.o), .sc (.int .i64 m.f), .sc (.int .i64 m.t), .sl 6 (txs m.l)]
def firstE : List Tx → Int
  | [] => 0
  | t :: l => if checkF t ≠ 0 then checkF t else firstE l
def otherO (o : Int) (l : List Tx) : Bool := l.any fun t => decide (t.o ≠ o)
def mdata (m : Msg) : Int :=
  if m.f ≠ 0 ∨ m.t ≠ 0 then 3 else if 4 < m.l.length then 4 else if firstE m.l ≠ 0 then firstE m.l else
  if m.l.length = 0 ∨ otherO m.o m.l = true then 1 else if rowF m.l = false then 6 else 0
def mack (m : Msg) : Int := if m.f ≠ 0 ∨ 0 < m.l.length then 3 else if m.t < 0 ∨ 4611686018427387903 < m.t then 1 else 0
def mask (m : Msg) : Int := if 0 < m.l.length then 3 else if m.f < 1 ∨ 4611686018427387903 < m.f ∨ m.t < m.f ∨ 4611686018427387903 < m.t then 1 else 0
def mchk (m : Msg) : Int := if m.k < 1 ∨ 3 < m.k then 3 else if m.o < 0 ∨ 2 < m.o then 9 else if m.k = 1 then mdata m else if m.k = 2 then mack m else mask m
def mbody (m : Msg) : List UInt8 := if m.k = 1 then (packF m.l).1 else if m.k = 2 then vput m.t.toNat else vput m.f.toNat ++ vput m.t.toNat
def mput (m : Msg) : List UInt8 × Int := if mchk m ≠ 0 then ([], mchk m) else (sealF (vput m.k.toNat ++ vput m.o.toNat ++ mbody m), 0)
def num1 (b : List UInt8) : Nat × List UInt8 × Int :=
  if (tk b).2.2 ≠ 0 then (0, b, (tk b).2.2) else if 4611686018427387903 < (tk b).1.toNat then (0, b, 1) else ((tk b).1.toNat, b.drop (tk b).2.1, 0)
def mparts (k o : Nat) (r : List UInt8) : Msg × Int :=
  if k = 1 then (⟨1, o, 0, 0, (unpackF r).1⟩, (unpackF r).2) else
  if k = 2 then
    if (num1 r).2.2 ≠ 0 then (⟨2, o, 0, 0, []⟩, (num1 r).2.2) else if (num1 r).2.1 ≠ [] then (⟨2, o, 0, (num1 r).1, []⟩, 3) else (⟨2, o, 0, (num1 r).1, []⟩, 0)
  else
    if (num1 r).2.2 ≠ 0 then (⟨3, o, 0, 0, []⟩, (num1 r).2.2) else
    if (num1 (num1 r).2.1).2.2 ≠ 0 then (⟨3, o, (num1 r).1, 0, []⟩, (num1 (num1 r).2.1).2.2) else
    if (num1 (num1 r).2.1).2.1 ≠ [] then (⟨3, o, (num1 r).1, (num1 (num1 r).2.1).1, []⟩, 3) else (⟨3, o, (num1 r).1, (num1 (num1 r).2.1).1, []⟩, 0)
def mread (p : List UInt8) : Msg × Int :=
  if (tk p).2.2 ≠ 0 then (.z, (tk p).2.2) else
  if (tk p).1.toNat < 1 ∨ 3 < (tk p).1.toNat then (.z, 3) else
  if (tk (p.drop (tk p).2.1)).2.2 ≠ 0 then (.z, (tk (p.drop (tk p).2.1)).2.2) else
  if 3 ≤ (tk (p.drop (tk p).2.1)).1.toNat then (.z, 9) else
  if (mparts (tk p).1.toNat (tk (p.drop (tk p).2.1)).1.toNat ((p.drop (tk p).2.1).drop (tk (p.drop (tk p).2.1)).2.1)).2 ≠ 0 then (.z, (mparts (tk p).1.toNat (tk (p.drop (tk p).2.1)).1.toNat ((p.drop (tk p).2.1).drop (tk (p.drop (tk p).2.1)).2.1)).2) else
  if mchk (mparts (tk p).1.toNat (tk (p.drop (tk p).2.1)).1.toNat ((p.drop (tk p).2.1).drop (tk (p.drop (tk p).2.1)).2.1)).1 ≠ 0 then (.z, mchk (mparts (tk p).1.toNat (tk (p.drop (tk p).2.1)).1.toNat ((p.drop (tk p).2.1).drop (tk (p.drop (tk p).2.1)).2.1)).1) else
  ((mparts (tk p).1.toNat (tk (p.drop (tk p).2.1)).1.toNat ((p.drop (tk p).2.1).drop (tk (p.drop (tk p).2.1)).2.1)).1, 0)
def mtake (b : List UInt8) : Msg × Int := if (openF b).2 ≠ 0 then (.z, (openF b).2) else mread (openF b).1
theorem mread_of {p q r : List UInt8} {u v : UInt64} {n m : Nat} (h1 : tk p = (u, n, 0)) (hq : p.drop n = q) (hu : 1 ≤ u.toNat ∧ u.toNat ≤ 3) (h2 : tk q = (v, m, 0)) (hr : q.drop m = r) (hv : v.toNat < 3) :
    mread p = if (mparts u.toNat v.toNat r).2 ≠ 0 then (.z, (mparts u.toNat v.toNat r).2) else if mchk (mparts u.toNat v.toNat r).1 ≠ 0 then (.z, mchk (mparts u.toNat v.toNat r).1) else ((mparts u.toNat v.toNat r).1, 0) := by
  unfold mread
  rw [h1]
  dsimp only
  rw [hq, h2]
  dsimp only
  rw [hr, if_neg (by simp), if_neg (by omega), if_neg (by simp), if_neg (by omega)]
theorem firstE_all : ∀ {l : List Tx}, firstE l = 0 → ∀ t ∈ l, checkF t = 0
  | [], _, t, ht => by cases ht
  | u :: l, h, t, ht => by
    unfold firstE at h
    by_cases hc : checkF u ≠ 0
    · rw [if_pos hc] at h; exact absurd h hc
    · rw [if_neg hc] at h
      rcases List.mem_cons.1 ht with rfl | ht
      · exact Decidable.not_not.1 hc
      · exact firstE_all h t ht
theorem packGo_fine : ∀ {l : List Tx} (x : Cod Di), (∀ t ∈ l, checkF t = 0) → (packGo x l).2 = 0
  | [], x, _ => rfl
  | t :: l, x, h => by
    rcases tput_cases (x := x) t with ⟨hc, p⟩ | ⟨hc, p⟩
    · exact absurd (h t (by simp)) hc
    · rw [packGo_ok p]
      have := packGo_fine (l := l) (tputF dpF x t).2 fun u hu => h u (by simp [hu])
      rw [if_neg (by rw [this]; simp)]
theorem pack_fine {l : List Tx} (h4 : l.length ≤ 4) (h : ∀ t ∈ l, checkF t = 0) : (packF l).2 = 0 := by
  unfold packF
  rw [if_neg (by omega), if_neg (by rw [packGo_fine Cod.new h]; simp)]
theorem mdata_ok {m : Msg} (h : mdata m = 0) : m.f = 0 ∧ m.t = 0 ∧ m.l.length ≤ 4 ∧ ∀ t ∈ m.l, checkF t = 0 := by
  unfold mdata at h
  split at h
  · exact absurd h (by decide)
  split at h
  · exact absurd h (by decide)
  split at h
  · rename_i h3; exact absurd h h3
  rename_i h1 h2 h3
  exact ⟨by omega, by omega, by omega, firstE_all (Decidable.not_not.1 h3)⟩
theorem mchk_ok {m : Msg} (h : mchk m = 0) : (1 ≤ m.k ∧ m.k ≤ 3) ∧ (0 ≤ m.o ∧ m.o ≤ 2) ∧ ((m.k = 1 ∧ mdata m = 0) ∨ (m.k = 2 ∧ mack m = 0) ∨ (m.k = 3 ∧ mask m = 0)) := by
  unfold mchk at h
  split at h
  · exact absurd h (by decide)
  split at h
  · exact absurd h (by decide)
  refine ⟨by omega, by omega, ?_⟩
  split at h
  · exact .inl ⟨by assumption, h⟩
  split at h
  · exact .inr (.inl ⟨by assumption, h⟩)
  · exact .inr (.inr ⟨by omega, h⟩)
theorem mack_ok {m : Msg} (h : mack m = 0) : m.f = 0 ∧ m.l = [] ∧ 0 ≤ m.t ∧ m.t ≤ 4611686018427387903 := by
  unfold mack at h
  split at h
  · exact absurd h (by decide)
  split at h
  · exact absurd h (by decide)
  exact ⟨by omega, List.length_eq_zero_iff.1 (by omega), by omega, by omega⟩
theorem mask_ok {m : Msg} (h : mask m = 0) : m.l = [] ∧ 1 ≤ m.f ∧ m.f ≤ m.t ∧ m.t ≤ 4611686018427387903 := by
  unfold mask at h
  split at h
  · exact absurd h (by decide)
  split at h
  · exact absurd h (by decide)
  exact ⟨List.length_eq_zero_iff.1 (by omega), by omega, by omega, by omega⟩
theorem of_nat {n : Nat} (h : n < 18446744073709551616) : (UInt64.ofNat n).toNat = n := UInt64.toNat_ofNat_of_lt' h
theorem num1_at {n : Nat} (hn : n ≤ 4611686018427387903) (r : List UInt8) : num1 (vput n ++ r) = (n, r, 0) := by
  have e := tk_nat n (by omega) r
  unfold num1
  rw [e]
  dsimp only
  rw [of_nat (by omega), if_neg (by simp), if_neg (by omega), List.drop_left]
theorem mbody1 (o f t : Int) (l : List Tx) : mbody ⟨1, o, f, t, l⟩ = (packF l).1 := by unfold mbody; exact if_pos rfl
theorem mbody2 (o f t : Int) (l : List Tx) : mbody ⟨2, o, f, t, l⟩ = vput t.toNat := by
  unfold mbody; rw [if_neg (show ¬ (2 : Int) = 1 by decide)]; exact if_pos rfl
theorem mbody3 (o f t : Int) (l : List Tx) : mbody ⟨3, o, f, t, l⟩ = vput f.toNat ++ vput t.toNat := by
  unfold mbody; rw [if_neg (show ¬ (3 : Int) = 1 by decide)]; exact if_neg (show ¬ (3 : Int) = 2 by decide)
theorem mparts1 (o : Nat) (r : List UInt8) : mparts 1 o r = (⟨1, o, 0, 0, (unpackF r).1⟩, (unpackF r).2) := by unfold mparts; exact if_pos rfl
theorem mparts2 (o : Nat) (r : List UInt8) : mparts 2 o r = if (num1 r).2.2 ≠ 0 then (⟨2, o, 0, 0, []⟩, (num1 r).2.2) else if (num1 r).2.1 ≠ [] then (⟨2, o, 0, (num1 r).1, []⟩, 3) else (⟨2, o, 0, (num1 r).1, []⟩, 0) := by
  unfold mparts; rw [if_neg (by decide)]; exact if_pos rfl
theorem mparts3 (o : Nat) (r : List UInt8) : mparts 3 o r = if (num1 r).2.2 ≠ 0 then (⟨3, o, 0, 0, []⟩, (num1 r).2.2) else
    if (num1 (num1 r).2.1).2.2 ≠ 0 then (⟨3, o, (num1 r).1, 0, []⟩, (num1 (num1 r).2.1).2.2) else
    if (num1 (num1 r).2.1).2.1 ≠ [] then (⟨3, o, (num1 r).1, (num1 (num1 r).2.1).1, []⟩, 3) else (⟨3, o, (num1 r).1, (num1 (num1 r).2.1).1, []⟩, 0) := by
  unfold mparts; rw [if_neg (by decide)]; exact if_neg (by decide)
theorem mread_back {m : Msg} (h : mchk m = 0) : mread (vput m.k.toNat ++ vput m.o.toNat ++ mbody m) = (m, 0) := by
  obtain ⟨hk, ho, hb⟩ := mchk_ok h
  have e1 := tk_nat m.k.toNat (by omega) (vput m.o.toNat ++ mbody m)
  have e2 := tk_nat m.o.toNat (by omega) (mbody m)
  have u1 := of_nat (n := m.k.toNat) (by omega)
  have u2 := of_nat (n := m.o.toNat) (by omega)
  rw [List.append_assoc, mread_of e1 List.drop_left (by rw [u1]; omega) e2 List.drop_left (by rw [u2]; omega), u1, u2]
  have hp : mparts m.k.toNat m.o.toNat (mbody m) = (m, 0) := by
    obtain ⟨k, o, f, t, l⟩ := m
    dsimp only at hk ho hb ⊢
    rcases hb with ⟨rfl, hd⟩ | ⟨rfl, hd⟩ | ⟨rfl, hd⟩
    · obtain ⟨a1, a2, a3, a4⟩ := mdata_ok hd
      dsimp only at a1 a2 a3 a4
      have := unpack_pack (pack_fine a3 a4)
      rw [mbody1, show (1 : Int).toNat = 1 from rfl, mparts1, this]
      dsimp only
      rw [a1, a2]
      congr 2; omega
    · obtain ⟨a1, a2, a3, a4⟩ := mack_ok hd
      dsimp only at a1 a2 a3 a4
      have := num1_at (n := t.toNat) (by omega) []
      rw [List.append_nil] at this
      rw [mbody2, show (2 : Int).toNat = 2 from rfl, mparts2, this]
      dsimp only
      rw [if_neg (by simp), if_neg (by simp), a1, a2]
      congr 2 <;> omega
    · obtain ⟨a1, a2, a3, a4⟩ := mask_ok hd
      dsimp only at a1 a2 a3 a4
      have e3 := num1_at (n := f.toNat) (by omega) (vput t.toNat)
      have e4 := num1_at (n := t.toNat) (by omega) []
      rw [List.append_nil] at e4
      rw [mbody3, show (3 : Int).toNat = 3 from rfl, mparts3, e3]
      dsimp only
      rw [e4]
      dsimp only
      rw [if_neg (by simp), if_neg (by simp), if_neg (by simp), a1]
      congr 2 <;> omega
  rw [hp]
  dsimp only
  rw [h]
  simp
theorem mtake_mput {m : Msg} (h : mchk m = 0) : mtake (mput m).1 = (m, 0) := by
  unfold mput
  rw [if_neg (by rw [h]; simp)]
  unfold mtake
  rw [openF_seal]
  dsimp only
  rw [if_neg (by simp), mread_back h]
theorem num1_ok {b r : List UInt8} {n : Nat} (h : num1 b = (n, r, 0)) : n ≤ 4611686018427387903 ∧ b = vput n ++ r := by
  unfold num1 at h
  split at h
  · rename_i h1; simp only [Prod.mk.injEq] at h; exact absurd h.2.2 h1
  split at h
  · simp at h
  rename_i h1 h2
  obtain ⟨k1, k2, k3⟩ := tk_ok (Decidable.not_not.1 h1)
  simp only [Prod.mk.injEq, and_true] at h
  obtain ⟨rfl, rfl⟩ := h
  exact ⟨by omega, by rw [k3, List.take_append_drop]⟩
theorem mparts_ok {k o : Nat} {r : List UInt8} {m : Msg} (hk : 1 ≤ k ∧ k ≤ 3) (h : mparts k o r = (m, 0)) : m.k = k ∧ m.o = o ∧ mbody m = r := by
  unfold mparts at h
  split at h
  · rename_i hk1
    subst hk1
    simp only [Prod.mk.injEq] at h
    obtain ⟨rfl, h⟩ := h
    have := pack_unpack (b := r) (l := (unpackF r).1) (Prod.ext rfl h)
    exact ⟨rfl, rfl, by rw [mbody1, this.1]⟩
  split at h
  · rename_i hk2
    subst hk2
    obtain ⟨n, r2, e, hn⟩ : ∃ n r2 e, num1 r = (n, r2, e) := ⟨_, _, _, rfl⟩
    rw [hn] at h
    dsimp only at h
    split at h
    · rename_i h1; simp only [Prod.mk.injEq] at h; exact absurd h.2 h1
    split at h
    · simp at h
    rename_i h1 h2
    simp only [Prod.mk.injEq, and_true] at h
    subst h
    rw [Decidable.not_not.1 h1, Decidable.not_not.1 h2] at hn
    have := num1_ok hn
    refine ⟨rfl, rfl, ?_⟩
    rw [mbody2, this.2]
    simp
  · have hk3 : k = 3 := by omega
    subst hk3
    obtain ⟨n, r2, e, hn⟩ : ∃ n r2 e, num1 r = (n, r2, e) := ⟨_, _, _, rfl⟩
    rw [hn] at h
    dsimp only at h
    obtain ⟨n', r3, e', hn'⟩ : ∃ n r4 e, num1 r2 = (n, r4, e) := ⟨_, _, _, rfl⟩
    rw [hn'] at h
    dsimp only at h
    split at h
    · rename_i h1; simp only [Prod.mk.injEq] at h; exact absurd h.2 h1
    split at h
    · rename_i h1; simp only [Prod.mk.injEq] at h; exact absurd h.2 h1
    split at h
    · simp at h
    rename_i h1 h2 h3
    simp only [Prod.mk.injEq, and_true] at h
    subst h
    rw [Decidable.not_not.1 h1] at hn
    rw [Decidable.not_not.1 h2, Decidable.not_not.1 h3] at hn'
    have g1 := num1_ok hn
    have g2 := num1_ok hn'
    refine ⟨rfl, rfl, ?_⟩
    rw [mbody3, g1.2, g2.2]
    simp
theorem mput_mtake {b : List UInt8} {m : Msg} (h : mtake b = (m, 0)) : mput m = (b, 0) ∧ mchk m = 0 := by
  unfold mtake at h
  split at h
  · rename_i h1; simp only [Prod.mk.injEq] at h; exact absurd h.2 h1
  rename_i h1
  obtain ⟨o1, o2, o3⟩ := openF_ok (Decidable.not_not.1 h1)
  generalize (openF b).1 = p at h o2
  rw [← o2] at o3
  obtain ⟨u, n, e, ht⟩ : ∃ u n e, tk p = (u, n, e) := ⟨_, _, _, rfl⟩
  obtain ⟨v, k, e', ht'⟩ : ∃ u k e, tk (p.drop n) = (u, k, e) := ⟨_, _, _, rfl⟩
  have he : e = 0 := by
    by_cases h0 : e = 0
    · exact h0
    · unfold mread at h; rw [ht] at h; rw [if_pos (show (u, n, e).2.2 ≠ 0 from h0)] at h; simp only [Prod.mk.injEq] at h; exact absurd h.2 h0
  subst he
  have hu : 1 ≤ u.toNat ∧ u.toNat ≤ 3 := by
    by_cases h0 : u.toNat < 1 ∨ 3 < u.toNat
    · unfold mread at h; rw [ht] at h; dsimp only at h; rw [if_neg (by simp), if_pos h0] at h; simp at h
    · omega
  have he' : e' = 0 := by
    by_cases h0 : e' = 0
    · exact h0
    · unfold mread at h; rw [ht] at h; dsimp only at h; rw [if_neg (by simp), if_neg (by omega), ht'] at h; rw [if_pos (show (v, k, e').2.2 ≠ 0 from h0)] at h; simp only [Prod.mk.injEq] at h; exact absurd h.2 h0
  subst he'
  have hv : v.toNat < 3 := by
    by_cases h0 : 3 ≤ v.toNat
    · unfold mread at h; rw [ht] at h; dsimp only at h; rw [if_neg (by simp), if_neg (by omega), ht'] at h; dsimp only at h; rw [if_neg (by simp), if_pos h0] at h; simp at h
    · omega
  rw [mread_of ht rfl hu ht' rfl hv] at h
  obtain ⟨m', e2, hm⟩ : ∃ m' e, mparts u.toNat v.toNat ((p.drop n).drop k) = (m', e) := ⟨_, _, rfl⟩
  rw [hm] at h
  dsimp only at h
  split at h
  · rename_i h2; simp only [Prod.mk.injEq] at h; exact absurd h.2 h2
  split at h
  · rename_i h2; simp only [Prod.mk.injEq] at h; exact absurd h.2 h2
  rename_i h2 h3
  simp only [Prod.mk.injEq, and_true] at h
  subst h
  rw [Decidable.not_not.1 h2] at hm
  obtain ⟨c1, c2, c3⟩ := mparts_ok hu hm
  have h3 := Decidable.not_not.1 h3
  refine ⟨?_, h3⟩
  unfold mput
  rw [if_neg (by rw [h3]; simp)]
  have k1 := tk_ok (l := p) (by rw [ht])
  have k2 := tk_ok (l := p.drop n) (by rw [ht'])
  rw [ht] at k1
  rw [ht'] at k2
  have ep : vput m'.k.toNat ++ vput m'.o.toNat ++ mbody m' = p := by
    rw [c1, c2, c3, Int.toNat_natCast, Int.toNat_natCast, k1.2.2, k2.2.2, List.append_assoc, List.take_append_drop, List.take_append_drop]
  rw [ep, o3]
end Go.Proofs.YtgfnpcmehnjopaaDoor
end
section
namespace Go.Proofs.YtgfnpcmehnjopaaDoor
open Go Go.RowKit
set_option linter.unusedVariables false
set_option linter.unusedSimpArgs false
variable {P : Program} {K : Nat → Obj → Prop} {n0 : Nat} {M : Oper → TypeId → Bool}
def inB (i : Nat) : List Nat → Bool
  | [] => false
  | j :: r => if i = j then true else inB i r
theorem inB_nil (i : Nat) : inB i [] = false := rfl
theorem inB_cons (i j : Nat) (r : List Nat) : inB i (j :: r) = if i = j then true else inB i r := rfl
theorem inB_mem (i : Nat) : ∀ r : List Nat, inB i r = r.contains i
  | [] => rfl
  | j :: r => by
    unfold inB
    rw [inB_mem i r, List.contains_cons]
    by_cases h : i = j
    · subst h; simp
    · simp [h]
theorem thinW_z (ro : List Nat) : thinW ro [] = [] := rfl
theorem thinW_c (ro : List Nat) (i : Nat) (o : Ho) (l : List (Nat × Ho)) : thinW ro ((i, o) :: l) = if inB i ro = true then thinW ro l else (i, o) :: thinW ro l := by
  rw [inB_mem]
  by_cases h : ro.contains i = true
  · rw [if_pos h]; simp only [thinW, List.filter_cons]; rw [if_neg (by rw [h]; simp)]
  · rw [if_neg h]; simp only [thinW, List.filter_cons]; rw [if_pos (by simpa using h)]
def roB (ro : List Nat) (h : List Ho) : List (Nat × Ho) → Prop
  | [] => True
  | (i, o) :: l => (if inB i ro = true then h[i]? = some o else True) ∧ roB ro h l
attribute [go_sem] thinW_z thinW_c inB_nil inB_cons
section
variable {ops : Array Oper} {N : Sv → Prop} {l : List Oper} {v : V} {f : FuncId} {vs vs' : List V} {hl hl' h : List Ho} {tm : List V} {dst : Option Tmp} {ids : List (List Nat × List Nat)}
end
theorem WPV.drawG {id : Nat} {L : List Oper} {Q : Exit → Sv → Prop} {st : Sv} (hm : P.follows .mixedOrders = true) (hR : okR L.toArray = true)
    (h : ∀ N : Sv → Prop, (∀ st, Q .normal st → N st) → ∀ ops : Array Oper, (∀ tm j, yieldedV ops tm j = yieldL (L.map (·.dst)) tm j) → (∀ ids, okOrd L.toArray ids = true → okOrd ops ids = true) → drawV P M K ops N L st.tm st.h []) : WPV P K n0 (.region id L.toArray true) Q st :=
  .drawK (M := M) hm hR fun N hN => h N hN L.toArray (yieldL_eq L) fun _ h => h
theorem gDG {id : Nat} {L L2 : List Oper} {l2 : List (Option Tmp)} {Q : Exit → Sv → Prop} {st : Sv}
    (h : ∀ N : Sv → Prop, (∀ st, Q .normal st → N st) → ∀ ops : Array Oper, (∀ tm j, yieldedV ops tm j = yieldL l2 tm j) → (∀ ids, okOrd L.toArray ids = true → okOrd ops ids = true) → drawV P M K ops N L2 st.tm st.h [])
    (e1 : L = L2 := by first | (simp only [List.append]; rfl) | rfl) (e2 : L2.map (·.dst) = l2 := by first | (simp only [List.map_cons, List.map_nil]; rfl) | rfl) (hm : P.follows .mixedOrders = true := by kernel_rfl) (hR : okR L.toArray = true := by kernel_rfl) : WPV P K n0 (.region id L.toArray true) Q st := by
  subst e1; subst e2; exact .drawG (M := M) hm hR h
def regC (i : Nat) : Code → Option Code
  | .region id ops b => if id = i then some (.region id ops b) else none
  | .seq x y => match regC i x with
    | some c => some c
    | none => regC i y
  | .cond _ x y => match regC i x with
    | some c => some c
    | none => regC i y
  | .block _ x => regC i x
  | .loop x => regC i x
  | .scope x => regC i x
  | _ => none
structure Hd (p : Prop) : Prop where
  out : p
theorem Wk.bl {a b : Bool} {vs vs' : List V} (h : a = b) (hs : Wk vs vs') : Wk (.sc (.bool a) :: vs) (.sc (.bool b) :: vs') := h ▸ Wk.same hs
end Go.Proofs.YtgfnpcmehnjopaaDoor
end
section
namespace Go.Proofs.YtgfnpcmehnjopaaDoor
open Go Go.RowKit
set_option linter.unusedVariables false
set_option linter.unusedSimpArgs false
variable {K : Nat → Obj → Prop}
abbrev msgC (m : Msg) : List V := [.sc (.int .i64 m.k), .sc (.int .i64 m.o), .sc (.int .i64 m.f), .sc (.int .i64 m.t), .sl 6 (txs m.l)]
abbrev kindsV : V := .agg [.sc .nilFunc, .sc .nilFunc, .sc .nilFunc, .fn 113 [], .fn 114 [], .fn 116 [], .fn 118 [], .fn 119 [], .fn 120 [], .fn 122 [], .fn 123 [], .fn 124 []]
set_option maxRecDepth 100000 in
set_option maxHeartbeats 1000000 in
theorem kinds_s (h : List Ho) : Sp Tryd.prog K 78 [] h fun u hh => u = kindsV ∧ hh = h := by
  refine Sp.lift (vs := []) ?_ (fun _ => rfl) (fun _ => rfl) h
  refine Sp.of_bodyE Tryd.func78 rfl ?_
  intro Q hQ
  simp only [List.replicate, List.length_cons, List.length_nil, Tryd.ntmps78, Nat.reduceAdd, Nat.reduceSub, List.cons_append, List.nil_append, go_sem]
  have hz : True := trivial
  have hy := yieldedV_eq
  have hL := True.intro
  repeat' (first | (refine WPV.seqK ?_; intro N hN) | (refine And.intro (hO _ (by kernel_rfl)) ?_; clear hO) | refine gA ?_ | (refine gR (M := noM) ?_; intro N hN ops hy) | (refine gDG (M := noM) ?_; intro N hN ops hy hO) | (refine WPV.condK ?_; intro A hA B hB) | (refine here ?_; refine sS ?_) | refine Both.mk ?_ ?_ | (refine hN _ ?_; try clear hN N; try clear hy ops) | (refine hA ?_; clear hA A hB B; try simp only [hz]) | (refine hB ?_; clear hA A hB B; try simp only [hz]) | (refine gG ?_ ?_ <;> (intro hz; have h := nm hz; try (exfalso; omega)) <;> (have hz := nz hz; try subst hz)) | (rw [if_pos (show _ ∧ _ from ⟨by omega, by omega⟩)]; refine sS ?_) | refine gT ?_ | (clear hN N))
  all_goals (first | exact retZ hQ Tryd.results78 (Desc.re [] rfl) | exact retZN hQ Tryd.results78 (Desc.re [] rfl))
set_option maxRecDepth 100000 in
theorem mwithin_s (n least : Int) (h : List Ho) : Sp Tryd.prog K 143 [.sc (.int .i64 n), .sc (.int .i64 least)] h fun u hh => u = .sc (.bool (decide (least ≤ n ∧ n ≤ 4611686018427387903))) ∧ hh = h := by
  refine Sp.lift (vs := [.sc (.int .i64 n), .sc (.int .i64 least)]) ?_ (fun _ => rfl) (fun _ => rfl) h
  refine Sp.of_bodyE Tryd.func143 rfl ?_
  intro Q hQ
  simp only [List.replicate, List.length_cons, List.length_nil, Tryd.ntmps143, Nat.reduceAdd, Nat.reduceSub, List.cons_append, List.nil_append, go_sem]
  have hz : True := trivial
  have hy := yieldedV_eq
  have hL := True.intro
  repeat' (first | (refine WPV.seqK ?_; intro N hN) | (refine And.intro (hO _ (by kernel_rfl)) ?_; clear hO) | refine gA ?_ | (refine gR (M := noM) ?_; intro N hN ops hy) | (refine gDG (M := noM) ?_; intro N hN ops hy hO) | (refine WPV.condK ?_; intro A hA B hB) | (refine here ?_; refine sS ?_) | refine Both.mk ?_ ?_ | (refine hN _ ?_; try clear hN N; try clear hy ops) | (refine hA ?_; clear hA A hB B; try simp only [hz]) | (refine hB ?_; clear hA A hB B; try simp only [hz]) | (refine gG ?_ ?_ <;> (intro hz; have h := nm hz; try (exfalso; omega)) <;> (have hz := nz hz; try subst hz)) | (rw [if_pos (show _ ∧ _ from ⟨by omega, by omega⟩)]; refine sS ?_) | refine gT ?_ | (clear hN N))
  all_goals (first | exact retZ hQ Tryd.results143 (Desc.re [] rfl) | exact retZN hQ Tryd.results143 (Desc.re [] rfl))
set_option maxRecDepth 100000 in
set_option maxHeartbeats 1000000 in
theorem mack_s (m : Msg) (hl : m.l.length ≤ 9223372036854775807) : Sp Tryd.prog K 118 [msgV m] [] fun u hh => u = .sc (.int .i64 (mack m)) ∧ hh = [] := by
  obtain ⟨k, o, f, t, l⟩ := m
  unfold mack
  dsimp only at hl ⊢
  refine Sp.of_bodyE Tryd.func118 rfl ?_
  intro Q hQ
  simp only [List.replicate, List.length_cons, List.length_nil, Tryd.ntmps118, Nat.reduceAdd, Nat.reduceSub, List.cons_append, List.nil_append, go_sem]
  have hz : True := trivial
  have hy := yieldedV_eq
  have hL := True.intro
  repeat' (first | (refine WPV.seqK ?_; intro N hN) | (refine And.intro (hO _ (by kernel_rfl)) ?_; clear hO) | refine gA ?_ | (refine gR (M := noM) ?_; intro N hN ops hy) | (refine gDG (M := noM) ?_; intro N hN ops hy hO) | (refine WPV.condK ?_; intro A hA B hB) | (refine here ?_; refine sS ?_) | refine Both.mk ?_ ?_ | ((with_reducible refine CallO.gd 143 ?_); refine CallO.toB Tryd.call143 (mwithin_s _ _ _) ?_) | ((with_reducible refine CallP.gd 143 ?_); refine CallP.toB Tryd.call143 (mwithin_s _ _ _) ?_) | (refine hN _ ?_; try clear hN N; try clear hy ops) | (refine hA ?_; clear hA A hB B; try simp only [hz]) | (refine hB ?_; clear hA A hB B; try simp only [hz]) | (refine gG ?_ ?_ <;> (intro hz; have h := nm hz; try (exfalso; omega)) <;> (have hz := nz hz; try subst hz)) | (rw [if_pos (show _ ∧ _ from ⟨by omega, by omega⟩)]; refine sS ?_) | refine gT ?_ | (clear hN N))
  all_goals (first | exact retZ hQ Tryd.results118 (Desc.re [] rfl) | exact retZN hQ Tryd.results118 (Desc.re [] rfl))
set_option maxRecDepth 100000 in
set_option maxHeartbeats 1000000 in
theorem mask_s (m : Msg) (hl : m.l.length ≤ 9223372036854775807) : Sp Tryd.prog K 122 [msgV m] [] fun u hh => u = .sc (.int .i64 (mask m)) ∧ hh = [] := by
  obtain ⟨k, o, f, t, l⟩ := m
  unfold mask
  dsimp only at hl ⊢
  refine Sp.of_bodyE Tryd.func122 rfl ?_
  intro Q hQ
  simp only [List.replicate, List.length_cons, List.length_nil, Tryd.ntmps122, Nat.reduceAdd, Nat.reduceSub, List.cons_append, List.nil_append, go_sem]
  have hz : True := trivial
  have hy := yieldedV_eq
  have hL := True.intro
  repeat' (first | (refine WPV.seqK ?_; intro N hN) | (refine And.intro (hO _ (by kernel_rfl)) ?_; clear hO) | refine gA ?_ | (refine gR (M := noM) ?_; intro N hN ops hy) | (refine gDG (M := noM) ?_; intro N hN ops hy hO) | (refine WPV.condK ?_; intro A hA B hB) | (refine here ?_; refine sS ?_) | refine Both.mk ?_ ?_ | ((with_reducible refine CallO.gd 143 ?_); refine CallO.toB Tryd.call143 (mwithin_s _ _ _) ?_) | ((with_reducible refine CallP.gd 143 ?_); refine CallP.toB Tryd.call143 (mwithin_s _ _ _) ?_) | (refine hN _ ?_; try clear hN N; try clear hy ops) | (refine hA ?_; clear hA A hB B; try simp only [hz]) | (refine hB ?_; clear hA A hB B; try simp only [hz]) | (refine gG ?_ ?_ <;> (intro hz; have h := nm hz; try (exfalso; omega)) <;> (have hz := nz hz; try subst hz)) | (rw [if_pos (show _ ∧ _ from ⟨by omega, by omega⟩)]; refine sS ?_) | refine gT ?_ | (clear hN N))
  all_goals (first | exact retZ hQ Tryd.results122 (Desc.re [] rfl) | exact retZN hQ Tryd.results122 (Desc.re [] rfl))
def tidx (o : Int) : List Tx → Nat → Int
  | [], _ => -1
  | a :: l, k => if a.o ≠ o then (k : Int) else tidx o l (k + 1)
theorem tidx_any (o : Int) : ∀ (l : List Tx) (k : Nat), decide (0 ≤ tidx o l k) = otherO o l
  | [], k => by simp [tidx, otherO]
  | a :: l, k => by
    unfold tidx
    have e : otherO o (a :: l) = (decide (a.o ≠ o) || otherO o l) := rfl
    rw [e]
    by_cases h : a.o ≠ o
    · rw [if_pos h]; simp [h]
    · rw [if_neg h, tidx_any o l (k + 1)]; simp [Decidable.not_not.1 h]
set_option maxRecDepth 100000 in
theorem data1_s (t : Tx) (m : Msg) : Sp Tryd.prog K 141 [txV t, .ptr 0 0] [.cells (msgC m)] fun u hh => u = .sc (.bool (decide (t.o ≠ m.o))) ∧ hh = [.cells (msgC m)] := by
  obtain ⟨o, s, ⟨x, y, z⟩, w⟩ := t
  refine Sp.of_bodyE Tryd.func141 rfl ?_
  intro Q hQ
  simp only [List.replicate, List.length_cons, List.length_nil, Tryd.ntmps141, Nat.reduceAdd, Nat.reduceSub, List.cons_append, List.nil_append, go_sem]
  have hz : True := trivial
  have hy := yieldedV_eq
  have hL := True.intro
  repeat' (first | (refine WPV.seqK ?_; intro N hN) | (refine And.intro (hO _ (by kernel_rfl)) ?_; clear hO) | refine gA ?_ | (refine gR (M := noM) ?_; intro N hN ops hy) | (refine gDG (M := noM) ?_; intro N hN ops hy hO) | (refine WPV.condK ?_; intro A hA B hB) | (refine here ?_; refine sS ?_) | refine Both.mk ?_ ?_ | (refine hN _ ?_; try clear hN N; try clear hy ops) | (refine hA ?_; clear hA A hB B; try simp only [hz]) | (refine hB ?_; clear hA A hB B; try simp only [hz]) | (refine gG ?_ ?_ <;> (intro hz; have h := nm hz; try (exfalso; omega)) <;> (have hz := nz hz; try subst hz)) | (rw [if_pos (show _ ∧ _ from ⟨by omega, by omega⟩)]; refine sS ?_) | refine gT ?_ | (clear hN N))
  all_goals (first | exact retZ hQ Tryd.results141 (Desc.re [some 0] rfl) | exact retZN hQ Tryd.results141 (Desc.re [some 0] rfl))
set_option maxRecDepth 100000 in
set_option maxHeartbeats 2000000 in
theorem dataI_s (m : Msg) (l : List Tx) (hl : l.length ≤ 9223372036854775807) : Sp Tryd.prog K 147 [.sl 6 (txs l), .fn 141 [.ptr 0 0]] [.cells (msgC m)] fun u hh => u = .sc (.int .i64 (tidx m.o l 0)) ∧ hh = [.cells (msgC m)] := by
  have hget := True.intro
  have cd := True.intro
  refine Sp.of_bodyE Tryd.func147 rfl ?_
  intro Q hQ
  simp only [List.replicate, List.length_cons, List.length_nil, Tryd.ntmps147, Nat.reduceAdd, Nat.reduceSub, List.cons_append, List.nil_append, go_sem]
  have hz : True := trivial
  have hy := yieldedV_eq
  have hL := @hget
  repeat' (first | (refine WPV.seqK ?_; intro N hN) | (refine And.intro (hO _ (by kernel_rfl)) ?_; clear hO) | refine gA ?_ | (refine gR (M := noM) ?_; intro N hN ops hy) | (refine gDG (M := noM) ?_; intro N hN ops hy hO) | (refine WPV.condK ?_; intro A hA B hB) | (refine here ?_; refine sS ?_) | refine Both.mk ?_ ?_ | ((with_reducible refine CallO.gd 141 ?_); refine CallO.frB [0] Tryd.call141 (cd) ?_) | (refine hN _ ?_; try clear hN N; try clear hy ops) | (refine hA ?_; clear hA A hB B; try simp only [hz]) | (refine hB ?_; clear hA A hB B; try simp only [hz]) | (refine gG ?_ ?_ <;> (intro hz; have h := nm hz; try (exfalso; omega)) <;> (have hz := nz hz; try subst hz)) | (rw [if_pos (show _ ∧ _ from ⟨by omega, by omega⟩)]; refine sS ?_) | refine gT ?_ | (clear hN N))
  clear hget cd
  refine WPV.loopW (α := Nat) (fun k => l.length - k) (fun k => ⟨[.sl 6 (txs l), .fn 141 [.ptr 0 0], .any, .any, .any, .any, .any, .sc (.int .i64 (l.length : Int)), .sc (.int .i64 ((k : Nat) : Int)), .any, .any, .any, .any, .any, .any, .any, .any, .any, .any], [.cells (msgC m)]⟩) (fun k => k ≤ l.length ∧ tidx m.o l 0 = tidx m.o (l.drop k) k) 0 Desc.weakA ⟨Nat.zero_le _, rfl⟩ (fun k hJ H => ?_)
  obtain ⟨j1, j2⟩ := hJ
  by_cases h : k < l.length
  · obtain ⟨a, hg0⟩ : ∃ a, l[k] = a := ⟨_, rfl⟩
    have hget : l[k]? = some a := by rw [← hg0]; exact List.getElem?_eq_getElem h
    have cd := data1_s (K := K) a m
    rw [List.drop_eq_getElem_cons h, hg0, tidx] at j2
    obtain ⟨ao, as_, ⟨x, y, z⟩, w⟩ := a
    dsimp only [txV] at cd j2
    by_cases hb : ao ≠ m.o
    · rw [if_pos hb] at j2
      rw [j2] at hQ
      rw [decide_eq_true hb] at cd
      clear H hg0 j2
      refine loopV ?_
      have hz : True := trivial
      have hy := yieldedV_eq
      have hL := @hget
      repeat' (first | (refine WPV.seqK ?_; intro N hN) | (refine And.intro (hO _ (by kernel_rfl)) ?_; clear hO) | refine gA ?_ | (refine gR (M := noM) ?_; intro N hN ops hy) | (refine gDG (M := noM) ?_; intro N hN ops hy hO) | (refine WPV.condK ?_; intro A hA B hB) | (refine here ?_; refine sS ?_) | refine Both.mk ?_ ?_ | ((with_reducible refine CallO.gd 141 ?_); refine CallO.frB [0] Tryd.call141 (cd) ?_) | (refine hN _ ?_; try clear hN N; try clear hy ops) | (refine hA ?_; clear hA A hB B; try simp only [hz]) | (refine hB ?_; clear hA A hB B; try simp only [hz]) | (refine gG ?_ ?_ <;> (intro hz; have h := nm hz; try (exfalso; omega)) <;> (have hz := nz hz; try subst hz)) | (rw [if_pos (show _ ∧ _ from ⟨by omega, by omega⟩)]; refine sS ?_) | refine gT ?_ | (clear hN N))
      all_goals (first | exact retZ hQ Tryd.results147 (Desc.re [some 0] rfl) | exact retZN hQ Tryd.results147 (Desc.re [some 0] rfl))
    · rw [if_neg hb] at j2
      rw [decide_eq_false hb] at cd
      have H' := H (k + 1) ⟨h, j2⟩ (by omega)
      clear H hg0 j2
      refine loopV ?_
      have hz : True := trivial
      have hy := yieldedV_eq
      have hL := @hget
      repeat' (first | (refine WPV.seqK ?_; intro N hN) | (refine And.intro (hO _ (by kernel_rfl)) ?_; clear hO) | refine gA ?_ | (refine gR (M := noM) ?_; intro N hN ops hy) | (refine gDG (M := noM) ?_; intro N hN ops hy hO) | (refine WPV.condK ?_; intro A hA B hB) | (refine here ?_; refine sS ?_) | refine Both.mk ?_ ?_ | ((with_reducible refine CallO.gd 141 ?_); refine CallO.frB [0] Tryd.call141 (cd) ?_) | (refine hN _ ?_; try clear hN N; try clear hy ops) | (refine hA ?_; clear hA A hB B; try simp only [hz]) | (refine hB ?_; clear hA A hB B; try simp only [hz]) | (refine gG ?_ ?_ <;> (intro hz; have h := nm hz; try (exfalso; omega)) <;> (have hz := nz hz; try subst hz)) | (rw [if_pos (show _ ∧ _ from ⟨by omega, by omega⟩)]; refine sS ?_) | refine gT ?_ | (clear hN N))
      all_goals (exact rndZ (Desc.re [some 0] rfl) (H'))
  · obtain rfl : k = l.length := by omega
    rw [List.drop_length] at j2
    have e : tidx m.o l 0 = -1 := j2
    rw [e] at hQ
    clear H j2 e
    refine loopV ?_
    have hz : True := trivial
    have hy := yieldedV_eq
    have hL := True.intro
    repeat' (first | (refine WPV.seqK ?_; intro N hN) | (refine And.intro (hO _ (by kernel_rfl)) ?_; clear hO) | refine gA ?_ | (refine gR (M := noM) ?_; intro N hN ops hy) | (refine gDG (M := noM) ?_; intro N hN ops hy hO) | (refine WPV.condK ?_; intro A hA B hB) | (refine here ?_; refine sS ?_) | refine Both.mk ?_ ?_ | (refine hN _ ?_; try clear hN N; try clear hy ops) | (refine hA ?_; clear hA A hB B; try simp only [hz]) | (refine hB ?_; clear hA A hB B; try simp only [hz]) | (refine gG ?_ ?_ <;> (intro hz; have h := nm hz; try (exfalso; omega)) <;> (have hz := nz hz; try subst hz)) | (rw [if_pos (show _ ∧ _ from ⟨by omega, by omega⟩)]; refine sS ?_) | refine gT ?_ | (clear hN N))
    all_goals (first | exact retZ hQ Tryd.results147 (Desc.re [some 0] rfl) | exact retZN hQ Tryd.results147 (Desc.re [some 0] rfl))
set_option maxRecDepth 100000 in
theorem dataC_s (m : Msg) (l : List Tx) (hl : l.length ≤ 9223372036854775807) : Sp Tryd.prog K 140 [.sl 6 (txs l), .fn 141 [.ptr 0 0]] [.cells (msgC m)] fun u hh => u = .sc (.bool (otherO m.o l)) ∧ hh = [.cells (msgC m)] := by
  have hq : decide (0 ≤ tidx m.o l 0) = otherO m.o l := tidx_any _ l 0
  refine Sp.of_bodyE Tryd.func140 rfl ?_
  intro Q hQ
  simp only [List.replicate, List.length_cons, List.length_nil, Tryd.ntmps140, Nat.reduceAdd, Nat.reduceSub, List.cons_append, List.nil_append, go_sem]
  have hz : True := trivial
  have hy := yieldedV_eq
  have hL := @hq
  repeat' (first | (refine WPV.seqK ?_; intro N hN) | (refine And.intro (hO _ (by kernel_rfl)) ?_; clear hO) | refine gA ?_ | (refine gR (M := noM) ?_; intro N hN ops hy) | (refine gDG (M := noM) ?_; intro N hN ops hy hO) | (refine WPV.condK ?_; intro A hA B hB) | (refine here ?_; refine sS ?_) | refine Both.mk ?_ ?_ | ((with_reducible refine CallO.gd 147 ?_); refine CallO.frB [0] Tryd.call147 (dataI_s m l hl) ?_) | (refine hN _ ?_; try clear hN N; try clear hy ops) | (refine hA ?_; clear hA A hB B; try simp only [hz]) | (refine hB ?_; clear hA A hB B; try simp only [hz]) | (refine gG ?_ ?_ <;> (intro hz; have h := nm hz; try (exfalso; omega)) <;> (have hz := nz hz; try subst hz)) | (rw [if_pos (show _ ∧ _ from ⟨by omega, by omega⟩)]; refine sS ?_) | refine gT ?_ | (clear hN N))
  all_goals (first | exact retZ hQ Tryd.results140 (Desc.re [some 0] rfl) | exact retZN hQ Tryd.results140 (Desc.re [some 0] rfl))
set_option maxRecDepth 100000 in
set_option maxHeartbeats 4000000 in
theorem mdata_s (m : Msg) (hl : m.l.length ≤ 9223372036854775807) (hw : ∀ t ∈ m.l, t.w.length ≤ 9223372036854775807) : Sp Tryd.prog K 113 [msgV m] [] fun u hh => u = .sc (.int .i64 (mdata m)) ∧ hh = [] := by
  by_cases h0 : m.f ≠ 0 ∨ m.t ≠ 0
  · rw [show mdata m = 3 from if_pos h0]
    obtain ⟨k, o, f, t, l⟩ := m
    dsimp only at h0
    refine Sp.of_bodyE Tryd.func113 rfl ?_
    intro Q hQ
    simp only [List.replicate, List.length_cons, List.length_nil, Tryd.ntmps113, Nat.reduceAdd, Nat.reduceSub, List.cons_append, List.nil_append, go_sem]
    have hz : True := trivial
    have hy := yieldedV_eq
    have hL := True.intro
    repeat' (first | (refine WPV.seqK ?_; intro N hN) | (refine And.intro (hO _ (by kernel_rfl)) ?_; clear hO) | refine gA ?_ | (refine gR (M := noM) ?_; intro N hN ops hy) | (refine gDG (M := noM) ?_; intro N hN ops hy hO) | (refine WPV.condK ?_; intro A hA B hB) | (refine here ?_; refine sS ?_) | refine Both.mk ?_ ?_ | (refine hN _ ?_; try clear hN N; try clear hy ops) | (refine hA ?_; clear hA A hB B; try simp only [hz]) | (refine hB ?_; clear hA A hB B; try simp only [hz]) | (refine gG ?_ ?_ <;> (intro hz; have h := nm hz; try (exfalso; omega)) <;> (have hz := nz hz; try subst hz)) | (rw [if_pos (show _ ∧ _ from ⟨by omega, by omega⟩)]; refine sS ?_) | refine gT ?_ | (clear hN N))
    all_goals (first | exact retZ hQ Tryd.results113 (Desc.re [] rfl) | exact retZN hQ Tryd.results113 (Desc.re [] rfl))
  by_cases h4 : 4 < m.l.length
  · rw [show mdata m = 4 by unfold mdata; rw [if_neg h0, if_pos h4]]
    obtain ⟨k, o, f, t, l⟩ := m
    dsimp only at h0 h4 hl
    refine Sp.of_bodyE Tryd.func113 rfl ?_
    intro Q hQ
    simp only [List.replicate, List.length_cons, List.length_nil, Tryd.ntmps113, Nat.reduceAdd, Nat.reduceSub, List.cons_append, List.nil_append, go_sem]
    have hz : True := trivial
    have hy := yieldedV_eq
    have hL := True.intro
    repeat' (first | (refine WPV.seqK ?_; intro N hN) | (refine And.intro (hO _ (by kernel_rfl)) ?_; clear hO) | refine gA ?_ | (refine gR (M := noM) ?_; intro N hN ops hy) | (refine gDG (M := noM) ?_; intro N hN ops hy hO) | (refine WPV.condK ?_; intro A hA B hB) | (refine here ?_; refine sS ?_) | refine Both.mk ?_ ?_ | (refine hN _ ?_; try clear hN N; try clear hy ops) | (refine hA ?_; clear hA A hB B; try simp only [hz]) | (refine hB ?_; clear hA A hB B; try simp only [hz]) | (refine gG ?_ ?_ <;> (intro hz; have h := nm hz; try (exfalso; omega)) <;> (have hz := nz hz; try subst hz)) | (rw [if_pos (show _ ∧ _ from ⟨by omega, by omega⟩)]; refine sS ?_) | refine gT ?_ | (clear hN N))
    all_goals (first | exact retZ hQ Tryd.results113 (Desc.re [] rfl) | exact retZN hQ Tryd.results113 (Desc.re [] rfl))
  have e0 : mdata m = if firstE m.l ≠ 0 then firstE m.l else if m.l.length = 0 ∨ otherO m.o m.l = true then 1 else if rowF m.l = false then 6 else 0 := by unfold mdata; rw [if_neg h0, if_neg h4]
  have hall := fun h => firstE_all (l := m.l) h
  have cC := dataC_s (K := K) m m.l hl
  have cR := fun h => row_s (K := K) m.l (by omega) h
  rw [e0]
  obtain ⟨mk, o, f, t, l⟩ := m
  dsimp only at h0 h4 hl hw hall cC cR ⊢
  clear e0
  refine Sp.of_bodyE Tryd.func113 rfl ?_
  intro Q hQ
  simp only [List.replicate, List.length_cons, List.length_nil, Tryd.ntmps113, Nat.reduceAdd, Nat.reduceSub, List.cons_append, List.nil_append, go_sem]
  have hz : True := trivial
  have hy := yieldedV_eq
  have hL := True.intro
  repeat' (first | (refine WPV.seqK ?_; intro N hN) | (refine And.intro (hO _ (by kernel_rfl)) ?_; clear hO) | refine gA ?_ | (refine gR (M := noM) ?_; intro N hN ops hy) | (refine gDG (M := noM) ?_; intro N hN ops hy hO) | (refine WPV.condK ?_; intro A hA B hB) | (refine here ?_; refine sS ?_) | refine Both.mk ?_ ?_ | (refine hN _ ?_; try clear hN N; try clear hy ops) | (refine hA ?_; clear hA A hB B; try simp only [hz]) | (refine hB ?_; clear hA A hB B; try simp only [hz]) | (refine gG ?_ ?_ <;> (intro hz; have h := nm hz; try (exfalso; omega)) <;> (have hz := nz hz; try subst hz)) | (rw [if_pos (show _ ∧ _ from ⟨by omega, by omega⟩)]; refine sS ?_) | refine gT ?_ | (clear hN N))
  refine WPV.loopW (α := Nat) (fun k => l.length - k) (fun k => ⟨[.any, .ptr 0 0, .any, .any, .any, .any, .any, .any, .any, .any, .any, .any, .any, .any, .any, .any, .any, .any, .any, .any, .any, .sl 6 (txs l), .sc (.int .i64 (l.length : Int)), .sc (.int .i64 ((k : Nat) : Int)), .any, .any, .any, .any, .any, .any, .any, .any, .any, .any, .any, .any, .any, .any, .any, .any, .any, .any, .any, .any, .any, .any, .any, .any, .any], [.cells [.sc (.int .i64 mk), .sc (.int .i64 o), .sc (.int .i64 f), .sc (.int .i64 t), .sl 6 (txs l)]]⟩) (fun k => k ≤ l.length ∧ firstE l = firstE (l.drop k)) 0 Desc.weakA ⟨Nat.zero_le _, rfl⟩ (fun k hJ H => ?_)
  obtain ⟨j1, j2⟩ := hJ
  by_cases h : k < l.length
  · obtain ⟨a, hg0⟩ : ∃ a, l[k] = a := ⟨_, rfl⟩
    have hget : l[k]? = some a := by rw [← hg0]; exact List.getElem?_eq_getElem h
    have ck := tcheck_s (K := K) a (hw a (hg0 ▸ List.getElem_mem h))
    have e1 : firstE (a :: l.drop (k + 1)) = if checkF a ≠ 0 then checkF a else firstE (l.drop (k + 1)) := rfl
    rw [List.drop_eq_getElem_cons h, hg0, e1] at j2
    clear e1 cC cR hall
    generalize checkF a = q at *
    obtain ⟨ao, as_, ⟨x, y, z⟩, w⟩ := a
    dsimp only [txV] at ck
    by_cases hb : q ≠ 0
    · rw [if_pos hb] at j2
      rw [j2, if_pos hb] at hQ
      clear H hg0 j2
      refine loopV ?_
      have hz : True := trivial
      have hy := yieldedV_eq
      have hL := @hget
      repeat' (first | (refine WPV.seqK ?_; intro N hN) | (refine And.intro (hO _ (by kernel_rfl)) ?_; clear hO) | refine gA ?_ | (refine gR (M := noM) ?_; intro N hN ops hy) | (refine gDG (M := noM) ?_; intro N hN ops hy hO) | (refine WPV.condK ?_; intro A hA B hB) | (refine here ?_; refine sS ?_) | refine Both.mk ?_ ?_ | ((with_reducible refine CallO.gd 66 ?_); refine CallO.frB [] Tryd.call66 (ck) ?_) | (refine hN _ ?_; try clear hN N; try clear hy ops) | (refine hA ?_; clear hA A hB B; try simp only [hz]) | (refine hB ?_; clear hA A hB B; try simp only [hz]) | (refine gG ?_ ?_ <;> (intro hz; have h := nm hz; try (exfalso; omega)) <;> (have hz := nz hz; try subst hz)) | (rw [if_pos (show _ ∧ _ from ⟨by omega, by omega⟩)]; refine sS ?_) | refine gT ?_ | (clear hN N))
      all_goals (first | exact retZ hQ Tryd.results113 (Desc.re [] rfl) | exact retZN hQ Tryd.results113 (Desc.re [] rfl))
    · rw [if_neg hb] at j2
      have hb := Decidable.not_not.1 hb
      subst hb
      have H' := H (k + 1) ⟨h, j2⟩ (by omega)
      clear H hg0 j2
      refine loopV ?_
      have hz : True := trivial
      have hy := yieldedV_eq
      have hL := @hget
      repeat' (first | (refine WPV.seqK ?_; intro N hN) | (refine And.intro (hO _ (by kernel_rfl)) ?_; clear hO) | refine gA ?_ | (refine gR (M := noM) ?_; intro N hN ops hy) | (refine gDG (M := noM) ?_; intro N hN ops hy hO) | (refine WPV.condK ?_; intro A hA B hB) | (refine here ?_; refine sS ?_) | refine Both.mk ?_ ?_ | ((with_reducible refine CallO.gd 66 ?_); refine CallO.frB [] Tryd.call66 (ck) ?_) | (refine hN _ ?_; try clear hN N; try clear hy ops) | (refine hA ?_; clear hA A hB B; try simp only [hz]) | (refine hB ?_; clear hA A hB B; try simp only [hz]) | (refine gG ?_ ?_ <;> (intro hz; have h := nm hz; try (exfalso; omega)) <;> (have hz := nz hz; try subst hz)) | (rw [if_pos (show _ ∧ _ from ⟨by omega, by omega⟩)]; refine sS ?_) | refine gT ?_ | (clear hN N))
      all_goals (exact rndZ (Desc.re [some 0] rfl) (H'))
  · obtain rfl : k = l.length := by omega
    rw [List.drop_length] at j2
    have e : firstE l = 0 := j2
    have hall := hall e
    have cR := cR fun t ht => by have := (check_ok (hall t ht)).2.1; omega
    have eo : otherO o l = true ∨ otherO o l = false := by cases otherO o l <;> simp
    have er : rowF l = true ∨ rowF l = false := by cases rowF l <;> simp
    rw [if_neg (by rw [e]; simp)] at hQ
    clear H j2 e hall
    dsimp only [msgC] at cC
    generalize otherO o l = b1 at *
    generalize rowF l = b2 at *
    rcases eo with rfl | rfl <;> rcases er with rfl | rfl
    all_goals refine loopV ?_
    · skip
      have hz : True := trivial
      have hy := yieldedV_eq
      have hL := True.intro
      repeat' (first | (refine WPV.seqK ?_; intro N hN) | (refine And.intro (hO _ (by kernel_rfl)) ?_; clear hO) | refine gA ?_ | (refine gR (M := noM) ?_; intro N hN ops hy) | (refine gDG (M := noM) ?_; intro N hN ops hy hO) | (refine WPV.condK ?_; intro A hA B hB) | (refine here ?_; refine sS ?_) | refine Both.mk ?_ ?_ | ((with_reducible refine CallO.gd 140 ?_); refine CallO.frB [0] Tryd.call140 (cC) ?_) | ((with_reducible refine CallO.gd 142 ?_); refine CallO.frB [] Tryd.call142 (cR) ?_) | (refine hN _ ?_; try clear hN N; try clear hy ops) | (refine hA ?_; clear hA A hB B; try simp only [hz]) | (refine hB ?_; clear hA A hB B; try simp only [hz]) | (refine gG ?_ ?_ <;> (intro hz; have h := nm hz; try (exfalso; omega)) <;> (have hz := nz hz; try subst hz)) | (rw [if_pos (show _ ∧ _ from ⟨by omega, by omega⟩)]; refine sS ?_) | refine gT ?_ | (clear hN N))
      all_goals (first | exact retZ hQ Tryd.results113 (Desc.re [] rfl) | exact retZN hQ Tryd.results113 (Desc.re [] rfl))
    · skip
      have hz : True := trivial
      have hy := yieldedV_eq
      have hL := True.intro
      repeat' (first | (refine WPV.seqK ?_; intro N hN) | (refine And.intro (hO _ (by kernel_rfl)) ?_; clear hO) | refine gA ?_ | (refine gR (M := noM) ?_; intro N hN ops hy) | (refine gDG (M := noM) ?_; intro N hN ops hy hO) | (refine WPV.condK ?_; intro A hA B hB) | (refine here ?_; refine sS ?_) | refine Both.mk ?_ ?_ | ((with_reducible refine CallO.gd 140 ?_); refine CallO.frB [0] Tryd.call140 (cC) ?_) | ((with_reducible refine CallO.gd 142 ?_); refine CallO.frB [] Tryd.call142 (cR) ?_) | (refine hN _ ?_; try clear hN N; try clear hy ops) | (refine hA ?_; clear hA A hB B; try simp only [hz]) | (refine hB ?_; clear hA A hB B; try simp only [hz]) | (refine gG ?_ ?_ <;> (intro hz; have h := nm hz; try (exfalso; omega)) <;> (have hz := nz hz; try subst hz)) | (rw [if_pos (show _ ∧ _ from ⟨by omega, by omega⟩)]; refine sS ?_) | refine gT ?_ | (clear hN N))
      all_goals (first | exact retZ hQ Tryd.results113 (Desc.re [] rfl) | exact retZN hQ Tryd.results113 (Desc.re [] rfl))
    · skip
      have hz : True := trivial
      have hy := yieldedV_eq
      have hL := True.intro
      repeat' (first | (refine WPV.seqK ?_; intro N hN) | (refine And.intro (hO _ (by kernel_rfl)) ?_; clear hO) | refine gA ?_ | (refine gR (M := noM) ?_; intro N hN ops hy) | (refine gDG (M := noM) ?_; intro N hN ops hy hO) | (refine WPV.condK ?_; intro A hA B hB) | (refine here ?_; refine sS ?_) | refine Both.mk ?_ ?_ | ((with_reducible refine CallO.gd 140 ?_); refine CallO.frB [0] Tryd.call140 (cC) ?_) | ((with_reducible refine CallO.gd 142 ?_); refine CallO.frB [] Tryd.call142 (cR) ?_) | (refine hN _ ?_; try clear hN N; try clear hy ops) | (refine hA ?_; clear hA A hB B; try simp only [hz]) | (refine hB ?_; clear hA A hB B; try simp only [hz]) | (refine gG ?_ ?_ <;> (intro hz; have h := nm hz; try (exfalso; omega)) <;> (have hz := nz hz; try subst hz)) | (rw [if_pos (show _ ∧ _ from ⟨by omega, by omega⟩)]; refine sS ?_) | refine gT ?_ | (clear hN N))
      all_goals (first | exact retZ hQ Tryd.results113 (Desc.re [] rfl) | exact retZN hQ Tryd.results113 (Desc.re [] rfl))
    · skip
      have hz : True := trivial
      have hy := yieldedV_eq
      have hL := True.intro
      repeat' (first | (refine WPV.seqK ?_; intro N hN) | (refine And.intro (hO _ (by kernel_rfl)) ?_; clear hO) | refine gA ?_ | (refine gR (M := noM) ?_; intro N hN ops hy) | (refine gDG (M := noM) ?_; intro N hN ops hy hO) | (refine WPV.condK ?_; intro A hA B hB) | (refine here ?_; refine sS ?_) | refine Both.mk ?_ ?_ | ((with_reducible refine CallO.gd 140 ?_); refine CallO.frB [0] Tryd.call140 (cC) ?_) | ((with_reducible refine CallO.gd 142 ?_); refine CallO.frB [] Tryd.call142 (cR) ?_) | (refine hN _ ?_; try clear hN N; try clear hy ops) | (refine hA ?_; clear hA A hB B; try simp only [hz]) | (refine hB ?_; clear hA A hB B; try simp only [hz]) | (refine gG ?_ ?_ <;> (intro hz; have h := nm hz; try (exfalso; omega)) <;> (have hz := nz hz; try subst hz)) | (rw [if_pos (show _ ∧ _ from ⟨by omega, by omega⟩)]; refine sS ?_) | refine gT ?_ | (clear hN N))
      all_goals (first | exact retZ hQ Tryd.results113 (Desc.re [] rfl) | exact retZN hQ Tryd.results113 (Desc.re [] rfl))
set_option maxRecDepth 100000 in
set_option maxHeartbeats 4000000 in
theorem mchk_s (m : Msg) (hl : m.l.length ≤ 9223372036854775807) (hw : ∀ t ∈ m.l, t.w.length ≤ 9223372036854775807) : Sp Tryd.prog K 39 [msgV m] [] fun u hh => u = .sc (.int .i64 (mchk m)) ∧ hh = [] := by
  have cd := mdata_s (K := K) m hl hw
  have ca := mack_s (K := K) m hl
  have ck := mask_s (K := K) m hl
  unfold mchk
  generalize mdata m = ed at *
  generalize mack m = ea at *
  generalize mask m = ek at *
  obtain ⟨k, o, f, t, l⟩ := m
  dsimp only at cd ca ck ⊢
  by_cases h1 : k = 1
  · subst h1
    refine Sp.of_bodyE Tryd.func39 rfl ?_
    intro Q hQ
    simp only [List.replicate, List.length_cons, List.length_nil, Tryd.ntmps39, Nat.reduceAdd, Nat.reduceSub, List.cons_append, List.nil_append, go_sem]
    have hz : True := trivial
    have hy := yieldedV_eq
    have hL := True.intro
    repeat' (first | (refine WPV.seqK ?_; intro N hN) | (refine And.intro (hO _ (by kernel_rfl)) ?_; clear hO) | refine gA ?_ | (refine gR (M := noM) ?_; intro N hN ops hy) | (refine gDG (M := noM) ?_; intro N hN ops hy hO) | (refine WPV.condK ?_; intro A hA B hB) | (refine here ?_; refine sS ?_) | refine Both.mk ?_ ?_ | ((with_reducible refine CallO.gd 78 ?_); refine CallO.toB Tryd.call78 (kinds_s _) ?_) | ((with_reducible refine CallO.gd 113 ?_); refine CallO.frB [] Tryd.call113 (cd) ?_) | ((with_reducible refine CallO.gd 118 ?_); refine CallO.frB [] Tryd.call118 (ca) ?_) | ((with_reducible refine CallO.gd 122 ?_); refine CallO.frB [] Tryd.call122 (ck) ?_) | ((with_reducible refine CallP.gd 78 ?_); refine CallP.toB Tryd.call78 (kinds_s _) ?_) | ((with_reducible refine CallP.gd 113 ?_); refine CallP.frB [] 0 Tryd.call113 (cd) ?_) | ((with_reducible refine CallP.gd 118 ?_); refine CallP.frB [] 0 Tryd.call118 (ca) ?_) | ((with_reducible refine CallP.gd 122 ?_); refine CallP.frB [] 0 Tryd.call122 (ck) ?_) | (refine hN _ ?_; try clear hN N; try clear hy ops) | (refine hA ?_; clear hA A hB B; try simp only [hz]) | (refine hB ?_; clear hA A hB B; try simp only [hz]) | (refine gG ?_ ?_ <;> (intro hz; have h := nm hz; try (exfalso; omega)) <;> (have hz := nz hz; try subst hz)) | (rw [if_pos (show _ ∧ _ from ⟨by omega, by omega⟩)]; refine sS ?_) | refine gT ?_ | (clear hN N))
    all_goals (first | exact retZ hQ Tryd.results39 (Desc.re [] rfl) | exact retZN hQ Tryd.results39 (Desc.re [] rfl))
  by_cases h2 : k = 2
  · subst h2
    refine Sp.of_bodyE Tryd.func39 rfl ?_
    intro Q hQ
    simp only [List.replicate, List.length_cons, List.length_nil, Tryd.ntmps39, Nat.reduceAdd, Nat.reduceSub, List.cons_append, List.nil_append, go_sem]
    have hz : True := trivial
    have hy := yieldedV_eq
    have hL := True.intro
    repeat' (first | (refine WPV.seqK ?_; intro N hN) | (refine And.intro (hO _ (by kernel_rfl)) ?_; clear hO) | refine gA ?_ | (refine gR (M := noM) ?_; intro N hN ops hy) | (refine gDG (M := noM) ?_; intro N hN ops hy hO) | (refine WPV.condK ?_; intro A hA B hB) | (refine here ?_; refine sS ?_) | refine Both.mk ?_ ?_ | ((with_reducible refine CallO.gd 78 ?_); refine CallO.toB Tryd.call78 (kinds_s _) ?_) | ((with_reducible refine CallO.gd 113 ?_); refine CallO.frB [] Tryd.call113 (cd) ?_) | ((with_reducible refine CallO.gd 118 ?_); refine CallO.frB [] Tryd.call118 (ca) ?_) | ((with_reducible refine CallO.gd 122 ?_); refine CallO.frB [] Tryd.call122 (ck) ?_) | ((with_reducible refine CallP.gd 78 ?_); refine CallP.toB Tryd.call78 (kinds_s _) ?_) | ((with_reducible refine CallP.gd 113 ?_); refine CallP.frB [] 0 Tryd.call113 (cd) ?_) | ((with_reducible refine CallP.gd 118 ?_); refine CallP.frB [] 0 Tryd.call118 (ca) ?_) | ((with_reducible refine CallP.gd 122 ?_); refine CallP.frB [] 0 Tryd.call122 (ck) ?_) | (refine hN _ ?_; try clear hN N; try clear hy ops) | (refine hA ?_; clear hA A hB B; try simp only [hz]) | (refine hB ?_; clear hA A hB B; try simp only [hz]) | (refine gG ?_ ?_ <;> (intro hz; have h := nm hz; try (exfalso; omega)) <;> (have hz := nz hz; try subst hz)) | (rw [if_pos (show _ ∧ _ from ⟨by omega, by omega⟩)]; refine sS ?_) | refine gT ?_ | (clear hN N))
    all_goals (first | exact retZ hQ Tryd.results39 (Desc.re [] rfl) | exact retZN hQ Tryd.results39 (Desc.re [] rfl))
  by_cases h3 : k = 3
  · subst h3
    refine Sp.of_bodyE Tryd.func39 rfl ?_
    intro Q hQ
    simp only [List.replicate, List.length_cons, List.length_nil, Tryd.ntmps39, Nat.reduceAdd, Nat.reduceSub, List.cons_append, List.nil_append, go_sem]
    have hz : True := trivial
    have hy := yieldedV_eq
    have hL := True.intro
    repeat' (first | (refine WPV.seqK ?_; intro N hN) | (refine And.intro (hO _ (by kernel_rfl)) ?_; clear hO) | refine gA ?_ | (refine gR (M := noM) ?_; intro N hN ops hy) | (refine gDG (M := noM) ?_; intro N hN ops hy hO) | (refine WPV.condK ?_; intro A hA B hB) | (refine here ?_; refine sS ?_) | refine Both.mk ?_ ?_ | ((with_reducible refine CallO.gd 78 ?_); refine CallO.toB Tryd.call78 (kinds_s _) ?_) | ((with_reducible refine CallO.gd 113 ?_); refine CallO.frB [] Tryd.call113 (cd) ?_) | ((with_reducible refine CallO.gd 118 ?_); refine CallO.frB [] Tryd.call118 (ca) ?_) | ((with_reducible refine CallO.gd 122 ?_); refine CallO.frB [] Tryd.call122 (ck) ?_) | ((with_reducible refine CallP.gd 78 ?_); refine CallP.toB Tryd.call78 (kinds_s _) ?_) | ((with_reducible refine CallP.gd 113 ?_); refine CallP.frB [] 0 Tryd.call113 (cd) ?_) | ((with_reducible refine CallP.gd 118 ?_); refine CallP.frB [] 0 Tryd.call118 (ca) ?_) | ((with_reducible refine CallP.gd 122 ?_); refine CallP.frB [] 0 Tryd.call122 (ck) ?_) | (refine hN _ ?_; try clear hN N; try clear hy ops) | (refine hA ?_; clear hA A hB B; try simp only [hz]) | (refine hB ?_; clear hA A hB B; try simp only [hz]) | (refine gG ?_ ?_ <;> (intro hz; have h := nm hz; try (exfalso; omega)) <;> (have hz := nz hz; try subst hz)) | (rw [if_pos (show _ ∧ _ from ⟨by omega, by omega⟩)]; refine sS ?_) | refine gT ?_ | (clear hN N))
    all_goals (first | exact retZ hQ Tryd.results39 (Desc.re [] rfl) | exact retZN hQ Tryd.results39 (Desc.re [] rfl))
  refine Sp.of_bodyE Tryd.func39 rfl ?_
  intro Q hQ
  simp only [List.replicate, List.length_cons, List.length_nil, Tryd.ntmps39, Nat.reduceAdd, Nat.reduceSub, List.cons_append, List.nil_append, go_sem]
  have hz : True := trivial
  have hy := yieldedV_eq
  have hL := True.intro
  repeat' (first | (refine WPV.seqK ?_; intro N hN) | (refine And.intro (hO _ (by kernel_rfl)) ?_; clear hO) | refine gA ?_ | (refine gR (M := noM) ?_; intro N hN ops hy) | (refine gDG (M := noM) ?_; intro N hN ops hy hO) | (refine WPV.condK ?_; intro A hA B hB) | (refine here ?_; refine sS ?_) | refine Both.mk ?_ ?_ | ((with_reducible refine CallO.gd 78 ?_); refine CallO.toB Tryd.call78 (kinds_s _) ?_) | ((with_reducible refine CallO.gd 113 ?_); refine CallO.frB [] Tryd.call113 (cd) ?_) | ((with_reducible refine CallO.gd 118 ?_); refine CallO.frB [] Tryd.call118 (ca) ?_) | ((with_reducible refine CallO.gd 122 ?_); refine CallO.frB [] Tryd.call122 (ck) ?_) | ((with_reducible refine CallP.gd 78 ?_); refine CallP.toB Tryd.call78 (kinds_s _) ?_) | ((with_reducible refine CallP.gd 113 ?_); refine CallP.frB [] 0 Tryd.call113 (cd) ?_) | ((with_reducible refine CallP.gd 118 ?_); refine CallP.frB [] 0 Tryd.call118 (ca) ?_) | ((with_reducible refine CallP.gd 122 ?_); refine CallP.frB [] 0 Tryd.call122 (ck) ?_) | (refine hN _ ?_; try clear hN N; try clear hy ops) | (refine hA ?_; clear hA A hB B; try simp only [hz]) | (refine hB ?_; clear hA A hB B; try simp only [hz]) | (refine gG ?_ ?_ <;> (intro hz; have h := nm hz; try (exfalso; omega)) <;> (have hz := nz hz; try subst hz)) | (rw [if_pos (show _ ∧ _ from ⟨by omega, by omega⟩)]; refine sS ?_) | refine gT ?_ | (clear hN N))
  all_goals (first | exact retZ hQ Tryd.results39 (Desc.re [] rfl) | exact retZN hQ Tryd.results39 (Desc.re [] rfl))
end Go.Proofs.YtgfnpcmehnjopaaDoor
end
section
namespace Go.Proofs.YtgfnpcmehnjopaaDoor
open Go Go.RowKit
set_option linter.unusedVariables false
set_option linter.unusedSimpArgs false
variable {K : Nat → Obj → Prop}
set_option maxRecDepth 100000 in
set_option maxHeartbeats 1000000 in
theorem kput1_s (m : Msg) (hw : ∀ t ∈ m.l, t.w.length ≤ 1000000) : Sp Tryd.prog K 114 [msgV m] [] fun u hh => u = .sl 1 (bs (packF m.l).1) ∧ hh = [] := by
  have cp := pack_s (K := K) m.l hw
  obtain ⟨k, o, f, t, l⟩ := m
  dsimp only [byV] at cp ⊢
  refine Sp.of_bodyE Tryd.func114 rfl ?_
  intro Q hQ
  simp only [List.replicate, List.length_cons, List.length_nil, Tryd.ntmps114, Nat.reduceAdd, Nat.reduceSub, List.cons_append, List.nil_append, go_sem]
  have hz : True := trivial
  have hy := yieldedV_eq
  have hL := True.intro
  repeat' (first | (refine WPV.seqK ?_; intro N hN) | (refine And.intro (hO _ (by kernel_rfl)) ?_; clear hO) | refine gA ?_ | (refine gR (M := noM) ?_; intro N hN ops hy) | (refine gDG (M := noM) ?_; intro N hN ops hy hO) | (refine WPV.condK ?_; intro A hA B hB) | (refine here ?_; refine sS ?_) | refine Both.mk ?_ ?_ | ((with_reducible refine CallO.gd 115 ?_); refine CallO.frB [] Tryd.call115 (cp) ?_) | (refine hN _ ?_; try clear hN N; try clear hy ops) | (refine hA ?_; clear hA A hB B; try simp only [hz]) | (refine hB ?_; clear hA A hB B; try simp only [hz]) | (refine gG ?_ ?_ <;> (intro hz; have h := nm hz; try (exfalso; omega)) <;> (have hz := nz hz; try subst hz)) | (rw [if_pos (show _ ∧ _ from ⟨by omega, by omega⟩)]; refine sS ?_) | refine gT ?_ | (clear hN N))
  all_goals (first | exact retZ hQ Tryd.results114 (Desc.re [] rfl) | exact retZN hQ Tryd.results114 (Desc.re [] rfl))
set_option maxRecDepth 100000 in
set_option maxHeartbeats 1000000 in
theorem kput2_s (k o f t : Int) (l : List Tx) (h : 0 ≤ t ∧ t ≤ 4611686018427387903) : Sp Tryd.prog K 119 [msgV ⟨k, o, f, t, l⟩] [] fun u hh => u = .sl 1 (bs (vput t.toNat)) ∧ hh = [] := by
  refine Sp.of_bodyE Tryd.func119 rfl ?_
  intro Q hQ
  simp only [List.replicate, List.length_cons, List.length_nil, Tryd.ntmps119, Nat.reduceAdd, Nat.reduceSub, List.cons_append, List.nil_append, go_sem]
  have hz : True := trivial
  have hy := yieldedV_eq
  have hL := True.intro
  repeat' (first | (refine WPV.seqK ?_; intro N hN) | (refine And.intro (hO _ (by kernel_rfl)) ?_; clear hO) | refine gA ?_ | (refine gR (M := noM) ?_; intro N hN ops hy) | (refine gDG (M := noM) ?_; intro N hN ops hy hO) | (refine WPV.condK ?_; intro A hA B hB) | (refine here ?_; refine sS ?_) | refine Both.mk ?_ ?_ | ((with_reducible refine CallO.gd 62 ?_); refine CallO.toB Tryd.call62 (vput_s (m := t) (by omega) (by omega) _) ?_) | ((with_reducible refine CallP.gd 62 ?_); refine CallP.toB Tryd.call62 (vput_s (m := t) (by omega) (by omega) _) ?_) | (refine hN _ ?_; try clear hN N; try clear hy ops) | (refine hA ?_; clear hA A hB B; try simp only [hz]) | (refine hB ?_; clear hA A hB B; try simp only [hz]) | (refine gG ?_ ?_ <;> (intro hz; have h := nm hz; try (exfalso; omega)) <;> (have hz := nz hz; try subst hz)) | (rw [if_pos (show _ ∧ _ from ⟨by omega, by omega⟩)]; refine sS ?_) | refine gT ?_ | (clear hN N))
  all_goals (first | exact retZ hQ Tryd.results119 (Desc.re [] rfl) | exact retZN hQ Tryd.results119 (Desc.re [] rfl))
set_option maxRecDepth 100000 in
set_option maxHeartbeats 1000000 in
theorem kput3_s (k o f t : Int) (l : List Tx) (h : 0 ≤ f ∧ f ≤ 4611686018427387903) (h2 : 0 ≤ t ∧ t ≤ 4611686018427387903) : Sp Tryd.prog K 123 [msgV ⟨k, o, f, t, l⟩] [] fun u hh => u = .sl 1 (bs (vput f.toNat ++ vput t.toNat)) ∧ hh = [] := by
  refine Sp.of_bodyE Tryd.func123 rfl ?_
  intro Q hQ
  simp only [List.replicate, List.length_cons, List.length_nil, Tryd.ntmps123, Nat.reduceAdd, Nat.reduceSub, List.cons_append, List.nil_append, go_sem]
  have hz : True := trivial
  have hy := yieldedV_eq
  have hL := True.intro
  repeat' (first | (refine WPV.seqK ?_; intro N hN) | (refine And.intro (hO _ (by kernel_rfl)) ?_; clear hO) | refine gA ?_ | (refine gR (M := noM) ?_; intro N hN ops hy) | (refine gDG (M := noM) ?_; intro N hN ops hy hO) | (refine WPV.condK ?_; intro A hA B hB) | (refine here ?_; refine sS ?_) | refine Both.mk ?_ ?_ | ((with_reducible refine CallO.gd 64 ?_); refine CallO.toB Tryd.call64 (vall2_s (a := f) (b := t) ⟨by omega, by omega⟩ ⟨by omega, by omega⟩ _) ?_) | ((with_reducible refine CallP.gd 64 ?_); refine CallP.toB Tryd.call64 (vall2_s (a := f) (b := t) ⟨by omega, by omega⟩ ⟨by omega, by omega⟩ _) ?_) | (refine hN _ ?_; try clear hN N; try clear hy ops) | (refine hA ?_; clear hA A hB B; try simp only [hz]) | (refine hB ?_; clear hA A hB B; try simp only [hz]) | (refine gG ?_ ?_ <;> (intro hz; have h := nm hz; try (exfalso; omega)) <;> (have hz := nz hz; try subst hz)) | (rw [if_pos (show _ ∧ _ from ⟨by omega, by omega⟩)]; refine sS ?_) | refine gT ?_ | (clear hN N))
  all_goals (first | exact retZ hQ Tryd.results123 (Desc.re [] rfl) | exact retZN hQ Tryd.results123 (Desc.re [] rfl))
theorem mbody_len {m : Msg} (h : mchk m = 0) : (mbody m).length ≤ 100000 := by
  obtain ⟨hk, ho, hb⟩ := mchk_ok h
  obtain ⟨k, o, f, t, l⟩ := m
  dsimp only at hk ho hb
  rcases hb with ⟨rfl, hd⟩ | ⟨rfl, hd⟩ | ⟨rfl, hd⟩
  · obtain ⟨a1, a2, a3, a4⟩ := mdata_ok hd
    dsimp only at a3 a4
    rw [mbody1]
    have go : ∀ (l : List Tx) (x : Cod Di), x.d.Ok → rightF x.c = true → (packGo x l).1.length ≤ 20000 * l.length := by
      intro l
      induction l with
      | nil => intro x _ _; simp [packGo]
      | cons t l ih =>
        intro x ok hr
        rcases tput_two ok hr t with ⟨hc, p1⟩ | ⟨hc, b, x', p1, ok', hr', hbl, p2⟩
        · rw [packGo_err p1 hc]; simp
        · rw [packGo_ok p1]
          have := ih x' ok' hr'
          split
          · simp
          · rw [List.length_append, List.length_cons]; omega
    have h1 := go l Cod.new .nw r_new
    have h2 := vput_len (n := l.length) (by omega)
    unfold packF
    split
    · simp
    split
    · simp
    · rw [List.length_append]; omega
  · rw [mbody2]
    have := (mack_ok hd)
    have h2 := vput_len (n := t.toNat) (by dsimp only at this; omega)
    omega
  · rw [mbody3]
    have := (mask_ok hd)
    dsimp only at this
    have h2 := vput_len (n := t.toNat) (by omega)
    have h3 := vput_len (n := f.toNat) (by omega)
    rw [List.length_append]; omega
set_option maxRecDepth 100000 in
set_option maxHeartbeats 4000000 in
theorem mput_s (hK : KT K) (m : Msg) (hl : m.l.length ≤ 9223372036854775807) (hw : ∀ t ∈ m.l, t.w.length ≤ 1000000) : Sp Tryd.prog K 38 [msgV m] [] fun u hh => u = byV (mput m) ∧ hh = [] := by
  have ck := mchk_s (K := K) m hl (fun t ht => Nat.le_trans (hw t ht) (by decide))
  by_cases hc : mchk m ≠ 0
  · rw [show mput m = ([], mchk m) from if_pos hc]
    have cv := True.intro
    have cb := True.intro
    have cs := True.intro
    generalize mchk m = e at *
    obtain ⟨k, o, f, t, l⟩ := m
    refine Sp.of_bodyE Tryd.func38 rfl ?_
    intro Q hQ
    simp only [List.replicate, List.length_cons, List.length_nil, Tryd.ntmps38, Nat.reduceAdd, Nat.reduceSub, List.cons_append, List.nil_append, go_sem]
    have hz : True := trivial
    have hy := yieldedV_eq
    have hL := True.intro
    repeat' (first | (refine WPV.seqK ?_; intro N hN) | (refine And.intro (hO _ (by kernel_rfl)) ?_; clear hO) | refine gA ?_ | (refine gR (M := noM) ?_; intro N hN ops hy) | (refine gDG (M := noM) ?_; intro N hN ops hy hO) | (refine WPV.condK ?_; intro A hA B hB) | (refine here ?_; refine sS ?_) | refine Both.mk ?_ ?_ | ((with_reducible refine CallO.gd 39 ?_); refine CallO.frB [] Tryd.call39 (ck) ?_) | ((with_reducible refine CallO.gd 64 ?_); refine CallO.frB [] Tryd.call64 (cv) ?_) | ((with_reducible refine CallO.gd 78 ?_); refine CallO.toB Tryd.call78 (kinds_s _) ?_) | ((with_reducible refine CallO.gd 114 ?_); refine CallO.frB [] Tryd.call114 (cb) ?_) | ((with_reducible refine CallO.gd 119 ?_); refine CallO.frB [] Tryd.call119 (cb) ?_) | ((with_reducible refine CallO.gd 123 ?_); refine CallO.frB [] Tryd.call123 (cb) ?_) | ((with_reducible refine CallO.gd 36 ?_); refine CallO.toB Tryd.call36 (cs _) ?_) | ((with_reducible refine CallP.gd 78 ?_); refine CallP.toB Tryd.call78 (kinds_s _) ?_) | ((with_reducible refine CallP.gd 114 ?_); refine CallP.frB [] 0 Tryd.call114 (cb) ?_) | ((with_reducible refine CallP.gd 119 ?_); refine CallP.frB [] 0 Tryd.call119 (cb) ?_) | ((with_reducible refine CallP.gd 123 ?_); refine CallP.frB [] 0 Tryd.call123 (cb) ?_) | ((with_reducible refine CallP.gd 36 ?_); refine CallP.toB Tryd.call36 (cs _) ?_) | (refine hN _ ?_; try clear hN N; try clear hy ops) | (refine hA ?_; clear hA A hB B; try simp only [hz]) | (refine hB ?_; clear hA A hB B; try simp only [hz]) | (refine gG ?_ ?_ <;> (intro hz; have h := nm hz; try (exfalso; omega)) <;> (have hz := nz hz; try subst hz)) | (rw [if_pos (show _ ∧ _ from ⟨by omega, by omega⟩)]; refine sS ?_) | refine gT ?_ | (clear hN N))
    all_goals (first | exact retZ hQ Tryd.results38 (Desc.re [] rfl) | exact retZN hQ Tryd.results38 (Desc.re [] rfl))
  have hc := Decidable.not_not.1 hc
  have hml := mbody_len hc
  obtain ⟨hk, ho, hb⟩ := mchk_ok hc
  have e0 : mput m = (sealF (vput m.k.toNat ++ vput m.o.toNat ++ mbody m), 0) := by unfold mput; rw [if_neg (by rw [hc]; simp)]
  rw [e0]
  rw [hc] at ck
  have hv1 := vput_len (n := m.k.toNat) (by omega)
  have hv2 := vput_len (n := m.o.toNat) (by omega)
  have cv := vall2O_s (K := K) (a := m.k) (b := m.o) (by omega) (by omega)
  have cs := fun h => seal_s hK (vput m.k.toNat ++ vput m.o.toNat ++ mbody m) (by simp only [List.length_append]; omega) h
  have hvl : (vput m.k.toNat ++ vput m.o.toNat).length ≤ 20 := by rw [List.length_append]; omega
  clear e0
  generalize sealF (vput m.k.toNat ++ vput m.o.toNat ++ mbody m) = q at *
  generalize vput m.k.toNat ++ vput m.o.toNat = hd at *
  rcases hb with ⟨h1, hd1⟩ | ⟨h1, hd1⟩ | ⟨h1, hd1⟩
  · have cb := kput1_s (K := K) m hw
    rw [show (packF m.l).1 = mbody m by unfold mbody; rw [if_pos h1]] at cb
    generalize mbody m = bd at *
    obtain ⟨k, o, f, t, l⟩ := m
    dsimp only at h1
    subst h1
    dsimp only at *
    refine Sp.of_bodyE Tryd.func38 rfl ?_
    intro Q hQ
    simp only [List.replicate, List.length_cons, List.length_nil, Tryd.ntmps38, Nat.reduceAdd, Nat.reduceSub, List.cons_append, List.nil_append, go_sem]
    have hz : True := trivial
    have hy := yieldedV_eq
    have hL := True.intro
    repeat' (first | (refine WPV.seqK ?_; intro N hN) | (refine And.intro (hO _ (by kernel_rfl)) ?_; clear hO) | refine gA ?_ | (refine gR (M := noM) ?_; intro N hN ops hy) | (refine gDG (M := noM) ?_; intro N hN ops hy hO) | (refine WPV.condK ?_; intro A hA B hB) | (refine here ?_; refine sS ?_) | refine Both.mk ?_ ?_ | ((with_reducible refine CallO.gd 39 ?_); refine CallO.frB [] Tryd.call39 (ck) ?_) | ((with_reducible refine CallO.gd 64 ?_); refine CallO.frB [] Tryd.call64 (cv) ?_) | ((with_reducible refine CallO.gd 78 ?_); refine CallO.toB Tryd.call78 (kinds_s _) ?_) | ((with_reducible refine CallO.gd 114 ?_); refine CallO.frB [] Tryd.call114 (cb) ?_) | ((with_reducible refine CallO.gd 119 ?_); refine CallO.frB [] Tryd.call119 (cb) ?_) | ((with_reducible refine CallO.gd 123 ?_); refine CallO.frB [] Tryd.call123 (cb) ?_) | ((with_reducible refine CallO.gd 36 ?_); refine CallO.toB Tryd.call36 (cs _) ?_) | ((with_reducible refine CallP.gd 78 ?_); refine CallP.toB Tryd.call78 (kinds_s _) ?_) | ((with_reducible refine CallP.gd 114 ?_); refine CallP.frB [] 0 Tryd.call114 (cb) ?_) | ((with_reducible refine CallP.gd 119 ?_); refine CallP.frB [] 0 Tryd.call119 (cb) ?_) | ((with_reducible refine CallP.gd 123 ?_); refine CallP.frB [] 0 Tryd.call123 (cb) ?_) | ((with_reducible refine CallP.gd 36 ?_); refine CallP.toB Tryd.call36 (cs _) ?_) | (refine hN _ ?_; try clear hN N; try clear hy ops) | (refine hA ?_; clear hA A hB B; try simp only [hz]) | (refine hB ?_; clear hA A hB B; try simp only [hz]) | (refine gG ?_ ?_ <;> (intro hz; have h := nm hz; try (exfalso; omega)) <;> (have hz := nz hz; try subst hz)) | (rw [if_pos (show _ ∧ _ from ⟨by omega, by omega⟩)]; refine sS ?_) | refine gT ?_ | (clear hN N))
    all_goals (first | exact retZ hQ Tryd.results38 (Desc.re [] rfl) | exact retZN hQ Tryd.results38 (Desc.re [] rfl))
  · obtain ⟨a1, a2, a3, a4⟩ := mack_ok hd1
    obtain ⟨k, o, f, t, l⟩ := m
    dsimp only at h1 a1 a2 a3 a4
    subst h1
    have cb := kput2_s (K := K) 2 o f t l ⟨a3, a4⟩
    rw [← mbody2 o f t l] at cb
    generalize mbody ⟨2, o, f, t, l⟩ = bd at *
    dsimp only at *
    refine Sp.of_bodyE Tryd.func38 rfl ?_
    intro Q hQ
    simp only [List.replicate, List.length_cons, List.length_nil, Tryd.ntmps38, Nat.reduceAdd, Nat.reduceSub, List.cons_append, List.nil_append, go_sem]
    have hz : True := trivial
    have hy := yieldedV_eq
    have hL := True.intro
    repeat' (first | (refine WPV.seqK ?_; intro N hN) | (refine And.intro (hO _ (by kernel_rfl)) ?_; clear hO) | refine gA ?_ | (refine gR (M := noM) ?_; intro N hN ops hy) | (refine gDG (M := noM) ?_; intro N hN ops hy hO) | (refine WPV.condK ?_; intro A hA B hB) | (refine here ?_; refine sS ?_) | refine Both.mk ?_ ?_ | ((with_reducible refine CallO.gd 39 ?_); refine CallO.frB [] Tryd.call39 (ck) ?_) | ((with_reducible refine CallO.gd 64 ?_); refine CallO.frB [] Tryd.call64 (cv) ?_) | ((with_reducible refine CallO.gd 78 ?_); refine CallO.toB Tryd.call78 (kinds_s _) ?_) | ((with_reducible refine CallO.gd 114 ?_); refine CallO.frB [] Tryd.call114 (cb) ?_) | ((with_reducible refine CallO.gd 119 ?_); refine CallO.frB [] Tryd.call119 (cb) ?_) | ((with_reducible refine CallO.gd 123 ?_); refine CallO.frB [] Tryd.call123 (cb) ?_) | ((with_reducible refine CallO.gd 36 ?_); refine CallO.toB Tryd.call36 (cs _) ?_) | ((with_reducible refine CallP.gd 78 ?_); refine CallP.toB Tryd.call78 (kinds_s _) ?_) | ((with_reducible refine CallP.gd 114 ?_); refine CallP.frB [] 0 Tryd.call114 (cb) ?_) | ((with_reducible refine CallP.gd 119 ?_); refine CallP.frB [] 0 Tryd.call119 (cb) ?_) | ((with_reducible refine CallP.gd 123 ?_); refine CallP.frB [] 0 Tryd.call123 (cb) ?_) | ((with_reducible refine CallP.gd 36 ?_); refine CallP.toB Tryd.call36 (cs _) ?_) | (refine hN _ ?_; try clear hN N; try clear hy ops) | (refine hA ?_; clear hA A hB B; try simp only [hz]) | (refine hB ?_; clear hA A hB B; try simp only [hz]) | (refine gG ?_ ?_ <;> (intro hz; have h := nm hz; try (exfalso; omega)) <;> (have hz := nz hz; try subst hz)) | (rw [if_pos (show _ ∧ _ from ⟨by omega, by omega⟩)]; refine sS ?_) | refine gT ?_ | (clear hN N))
    all_goals (first | exact retZ hQ Tryd.results38 (Desc.re [] rfl) | exact retZN hQ Tryd.results38 (Desc.re [] rfl))
  · obtain ⟨a1, a2, a3, a4⟩ := mask_ok hd1
    obtain ⟨k, o, f, t, l⟩ := m
    dsimp only at h1 a1 a2 a3 a4
    subst h1
    have cb := kput3_s (K := K) 3 o f t l ⟨by omega, by omega⟩ ⟨by omega, by omega⟩
    rw [← mbody3 o f t l] at cb
    generalize mbody ⟨3, o, f, t, l⟩ = bd at *
    dsimp only at *
    refine Sp.of_bodyE Tryd.func38 rfl ?_
    intro Q hQ
    simp only [List.replicate, List.length_cons, List.length_nil, Tryd.ntmps38, Nat.reduceAdd, Nat.reduceSub, List.cons_append, List.nil_append, go_sem]
    have hz : True := trivial
    have hy := yieldedV_eq
    have hL := True.intro
    repeat' (first | (refine WPV.seqK ?_; intro N hN) | (refine And.intro (hO _ (by kernel_rfl)) ?_; clear hO) | refine gA ?_ | (refine gR (M := noM) ?_; intro N hN ops hy) | (refine gDG (M := noM) ?_; intro N hN ops hy hO) | (refine WPV.condK ?_; intro A hA B hB) | (refine here ?_; refine sS ?_) | refine Both.mk ?_ ?_ | ((with_reducible refine CallO.gd 39 ?_); refine CallO.frB [] Tryd.call39 (ck) ?_) | ((with_reducible refine CallO.gd 64 ?_); refine CallO.frB [] Tryd.call64 (cv) ?_) | ((with_reducible refine CallO.gd 78 ?_); refine CallO.toB Tryd.call78 (kinds_s _) ?_) | ((with_reducible refine CallO.gd 114 ?_); refine CallO.frB [] Tryd.call114 (cb) ?_) | ((with_reducible refine CallO.gd 119 ?_); refine CallO.frB [] Tryd.call119 (cb) ?_) | ((with_reducible refine CallO.gd 123 ?_); refine CallO.frB [] Tryd.call123 (cb) ?_) | ((with_reducible refine CallO.gd 36 ?_); refine CallO.toB Tryd.call36 (cs _) ?_) | ((with_reducible refine CallP.gd 78 ?_); refine CallP.toB Tryd.call78 (kinds_s _) ?_) | ((with_reducible refine CallP.gd 114 ?_); refine CallP.frB [] 0 Tryd.call114 (cb) ?_) | ((with_reducible refine CallP.gd 119 ?_); refine CallP.frB [] 0 Tryd.call119 (cb) ?_) | ((with_reducible refine CallP.gd 123 ?_); refine CallP.frB [] 0 Tryd.call123 (cb) ?_) | ((with_reducible refine CallP.gd 36 ?_); refine CallP.toB Tryd.call36 (cs _) ?_) | (refine hN _ ?_; try clear hN N; try clear hy ops) | (refine hA ?_; clear hA A hB B; try simp only [hz]) | (refine hB ?_; clear hA A hB B; try simp only [hz]) | (refine gG ?_ ?_ <;> (intro hz; have h := nm hz; try (exfalso; omega)) <;> (have hz := nz hz; try subst hz)) | (rw [if_pos (show _ ∧ _ from ⟨by omega, by omega⟩)]; refine sS ?_) | refine gT ?_ | (clear hN N))
    all_goals (first | exact retZ hQ Tryd.results38 (Desc.re [] rfl) | exact retZN hQ Tryd.results38 (Desc.re [] rfl))
set_option maxRecDepth 100000 in
set_option maxHeartbeats 2000000 in
theorem nums1_s (b : List UInt8) (hl : b.length ≤ 1000000000) {n : Nat} {r : List UInt8} {e : Int} (h1 : num1 b = (n, r, e)) (k o f t : Int) (l : List Tx) : Sp Tryd.prog K 121 [.sl 1 (bs b), .hs true 1 1 0 1] [.cells (msgC ⟨k, o, f, t, l⟩), .cells [.ptr 0 3]] fun u hh => u = .sc (.int .i64 (if e ≠ 0 then e else if r ≠ [] then 3 else 0)) ∧ hh = [.cells (msgC ⟨k, o, f, if e ≠ 0 then t else n, l⟩), .cells [.ptr 0 3]] := by
  obtain ⟨p, m, er, ht⟩ : ∃ p m er, tk b = (p, m, er) := ⟨_, _, _, rfl⟩
  have ct := fun h => vtake_s (K := K) ht hl h
  have hm := tk_le b
  have e0 : num1 b = if er ≠ 0 then (0, b, er) else if 4611686018427387903 < p.toNat then (0, b, 1) else (p.toNat, b.drop m, 0) := by unfold num1; rw [ht]
  rw [ht] at hm
  dsimp only at hm
  rw [e0] at h1
  clear e0 ht
  by_cases he : er ≠ 0
  · rw [if_pos he] at h1
    simp only [Prod.mk.injEq] at h1
    obtain ⟨rfl, rfl, rfl⟩ := h1
    rw [if_pos he, if_pos he]
    refine Sp.of_bodyE Tryd.func121 rfl ?_
    intro Q hQ
    simp only [List.replicate, List.length_cons, List.length_nil, Tryd.ntmps121, Nat.reduceAdd, Nat.reduceSub, List.cons_append, List.nil_append, go_sem]
    have hz : True := trivial
    have hy := yieldedV_eq
    have hL := True.intro
    repeat' (first | (refine WPV.seqK ?_; intro N hN) | (refine And.intro (hO _ (by kernel_rfl)) ?_; clear hO) | refine gA ?_ | (refine gR (M := noM) ?_; intro N hN ops hy) | (refine gDG (M := noM) ?_; intro N hN ops hy hO) | (refine WPV.condK ?_; intro A hA B hB) | (refine here ?_; refine sS ?_) | refine Both.mk ?_ ?_ | ((with_reducible refine CallO.gd 77 ?_); refine CallO.toB Tryd.call77 (ct _) ?_) | ((with_reducible refine CallP.gd 77 ?_); refine CallP.toB Tryd.call77 (ct _) ?_) | (refine hN _ ?_; try clear hN N; try clear hy ops) | (refine hA ?_; clear hA A hB B; try simp only [hz]) | (refine hB ?_; clear hA A hB B; try simp only [hz]) | (refine gG ?_ ?_ <;> (intro hz; have h := nm hz; try (exfalso; omega)) <;> (have hz := nz hz; try subst hz)) | (rw [if_pos (show _ ∧ _ from ⟨by omega, by omega⟩)]; refine sS ?_) | refine gT ?_ | (clear hN N))
    refine loopV ?_
    have hz : True := trivial
    have hy := yieldedV_eq
    have hL := True.intro
    repeat' (first | (refine WPV.seqK ?_; intro N hN) | (refine And.intro (hO _ (by kernel_rfl)) ?_; clear hO) | refine gA ?_ | (refine gR (M := noM) ?_; intro N hN ops hy) | (refine gDG (M := noM) ?_; intro N hN ops hy hO) | (refine WPV.condK ?_; intro A hA B hB) | (refine here ?_; refine sS ?_) | refine Both.mk ?_ ?_ | ((with_reducible refine CallO.gd 77 ?_); refine CallO.toB Tryd.call77 (ct _) ?_) | ((with_reducible refine CallP.gd 77 ?_); refine CallP.toB Tryd.call77 (ct _) ?_) | (refine hN _ ?_; try clear hN N; try clear hy ops) | (refine hA ?_; clear hA A hB B; try simp only [hz]) | (refine hB ?_; clear hA A hB B; try simp only [hz]) | (refine gG ?_ ?_ <;> (intro hz; have h := nm hz; try (exfalso; omega)) <;> (have hz := nz hz; try subst hz)) | (rw [if_pos (show _ ∧ _ from ⟨by omega, by omega⟩)]; refine sS ?_) | refine gT ?_ | (clear hN N))
    all_goals (first | exact retZ hQ Tryd.results121 (Desc.re [some 0, some 1] rfl) | exact retZN hQ Tryd.results121 (Desc.re [some 0, some 1] rfl))
  rw [if_neg he] at h1
  have he := Decidable.not_not.1 he
  subst he
  by_cases hp : 4611686018427387903 < p.toNat
  · rw [if_pos hp] at h1
    simp only [Prod.mk.injEq] at h1
    obtain ⟨rfl, rfl, rfl⟩ := h1
    rw [if_pos (by decide), if_pos (by decide)]
    refine Sp.of_bodyE Tryd.func121 rfl ?_
    intro Q hQ
    simp only [List.replicate, List.length_cons, List.length_nil, Tryd.ntmps121, Nat.reduceAdd, Nat.reduceSub, List.cons_append, List.nil_append, go_sem]
    have hz : True := trivial
    have hy := yieldedV_eq
    have hL := True.intro
    repeat' (first | (refine WPV.seqK ?_; intro N hN) | (refine And.intro (hO _ (by kernel_rfl)) ?_; clear hO) | refine gA ?_ | (refine gR (M := noM) ?_; intro N hN ops hy) | (refine gDG (M := noM) ?_; intro N hN ops hy hO) | (refine WPV.condK ?_; intro A hA B hB) | (refine here ?_; refine sS ?_) | refine Both.mk ?_ ?_ | ((with_reducible refine CallO.gd 77 ?_); refine CallO.toB Tryd.call77 (ct _) ?_) | ((with_reducible refine CallP.gd 77 ?_); refine CallP.toB Tryd.call77 (ct _) ?_) | (refine hN _ ?_; try clear hN N; try clear hy ops) | (refine hA ?_; clear hA A hB B; try simp only [hz]) | (refine hB ?_; clear hA A hB B; try simp only [hz]) | (refine gG ?_ ?_ <;> (intro hz; have h := nm hz; try (exfalso; omega)) <;> (have hz := nz hz; try subst hz)) | (rw [if_pos (show _ ∧ _ from ⟨by omega, by omega⟩)]; refine sS ?_) | refine gT ?_ | (clear hN N))
    refine loopV ?_
    have hz : True := trivial
    have hy := yieldedV_eq
    have hL := True.intro
    repeat' (first | (refine WPV.seqK ?_; intro N hN) | (refine And.intro (hO _ (by kernel_rfl)) ?_; clear hO) | refine gA ?_ | (refine gR (M := noM) ?_; intro N hN ops hy) | (refine gDG (M := noM) ?_; intro N hN ops hy hO) | (refine WPV.condK ?_; intro A hA B hB) | (refine here ?_; refine sS ?_) | refine Both.mk ?_ ?_ | ((with_reducible refine CallO.gd 77 ?_); refine CallO.toB Tryd.call77 (ct _) ?_) | ((with_reducible refine CallP.gd 77 ?_); refine CallP.toB Tryd.call77 (ct _) ?_) | (refine hN _ ?_; try clear hN N; try clear hy ops) | (refine hA ?_; clear hA A hB B; try simp only [hz]) | (refine hB ?_; clear hA A hB B; try simp only [hz]) | (refine gG ?_ ?_ <;> (intro hz; have h := nm hz; try (exfalso; omega)) <;> (have hz := nz hz; try subst hz)) | (rw [if_pos (show _ ∧ _ from ⟨by omega, by omega⟩)]; refine sS ?_) | refine gT ?_ | (clear hN N))
    all_goals (first | exact retZ hQ Tryd.results121 (Desc.re [some 0, some 1] rfl) | exact retZN hQ Tryd.results121 (Desc.re [some 0, some 1] rfl))
  rw [if_neg hp] at h1
  simp only [Prod.mk.injEq] at h1
  obtain ⟨rfl, rfl, rfl⟩ := h1
  simp only [ne_eq, not_true_eq_false, if_false]
  have hlen : (b.drop m).length = b.length - m := List.length_drop
  have hr : (if ¬ b.drop m = [] then (3 : Int) else 0) = if m < b.length then 3 else 0 := by
    by_cases h : ¬ b.drop m = []
    · have := List.length_pos_iff.2 h
      rw [if_pos h, if_pos (by omega)]
    · rw [if_neg h, if_neg (by rw [Decidable.not_not.1 h] at hlen; simp at hlen; omega)]
  rw [hr]
  refine Sp.of_bodyE Tryd.func121 rfl ?_
  intro Q hQ
  simp only [List.replicate, List.length_cons, List.length_nil, Tryd.ntmps121, Nat.reduceAdd, Nat.reduceSub, List.cons_append, List.nil_append, go_sem]
  have hz : True := trivial
  have hy := yieldedV_eq
  have hL := True.intro
  repeat' (first | (refine WPV.seqK ?_; intro N hN) | (refine And.intro (hO _ (by kernel_rfl)) ?_; clear hO) | refine gA ?_ | (refine gR (M := noM) ?_; intro N hN ops hy) | (refine gDG (M := noM) ?_; intro N hN ops hy hO) | (refine WPV.condK ?_; intro A hA B hB) | (refine here ?_; refine sS ?_) | refine Both.mk ?_ ?_ | ((with_reducible refine CallO.gd 77 ?_); refine CallO.toB Tryd.call77 (ct _) ?_) | ((with_reducible refine CallP.gd 77 ?_); refine CallP.toB Tryd.call77 (ct _) ?_) | (refine hN _ ?_; try clear hN N; try clear hy ops) | (refine hA ?_; clear hA A hB B; try simp only [hz]) | (refine hB ?_; clear hA A hB B; try simp only [hz]) | (refine gG ?_ ?_ <;> (intro hz; have h := nm hz; try (exfalso; omega)) <;> (have hz := nz hz; try subst hz)) | (rw [if_pos (show _ ∧ _ from ⟨by omega, by omega⟩)]; refine sS ?_) | refine gT ?_ | (clear hN N))
  refine loopV ?_
  have hz : True := trivial
  have hy := yieldedV_eq
  have hL := True.intro
  repeat' (first | (refine WPV.seqK ?_; intro N hN) | (refine And.intro (hO _ (by kernel_rfl)) ?_; clear hO) | refine gA ?_ | (refine gR (M := noM) ?_; intro N hN ops hy) | (refine gDG (M := noM) ?_; intro N hN ops hy hO) | (refine WPV.condK ?_; intro A hA B hB) | (refine here ?_; refine sS ?_) | refine Both.mk ?_ ?_ | ((with_reducible refine CallO.gd 77 ?_); refine CallO.toB Tryd.call77 (ct _) ?_) | ((with_reducible refine CallP.gd 77 ?_); refine CallP.toB Tryd.call77 (ct _) ?_) | (refine hN _ ?_; try clear hN N; try clear hy ops) | (refine hA ?_; clear hA A hB B; try simp only [hz]) | (refine hB ?_; clear hA A hB B; try simp only [hz]) | (refine gG ?_ ?_ <;> (intro hz; have h := nm hz; try (exfalso; omega)) <;> (have hz := nz hz; try subst hz)) | (rw [if_pos (show _ ∧ _ from ⟨by omega, by omega⟩)]; refine sS ?_) | refine gT ?_ | (clear hN N))
  refine loopV ?_
  have hz : True := trivial
  have hy := yieldedV_eq
  have hL := True.intro
  repeat' (first | (refine WPV.seqK ?_; intro N hN) | (refine And.intro (hO _ (by kernel_rfl)) ?_; clear hO) | refine gA ?_ | (refine gR (M := noM) ?_; intro N hN ops hy) | (refine gDG (M := noM) ?_; intro N hN ops hy hO) | (refine WPV.condK ?_; intro A hA B hB) | (refine here ?_; refine sS ?_) | refine Both.mk ?_ ?_ | ((with_reducible refine CallO.gd 77 ?_); refine CallO.toB Tryd.call77 (ct _) ?_) | ((with_reducible refine CallP.gd 77 ?_); refine CallP.toB Tryd.call77 (ct _) ?_) | (refine hN _ ?_; try clear hN N; try clear hy ops) | (refine hA ?_; clear hA A hB B; try simp only [hz]) | (refine hB ?_; clear hA A hB B; try simp only [hz]) | (refine gG ?_ ?_ <;> (intro hz; have h := nm hz; try (exfalso; omega)) <;> (have hz := nz hz; try subst hz)) | (rw [if_pos (show _ ∧ _ from ⟨by omega, by omega⟩)]; refine sS ?_) | refine gT ?_ | (clear hN N))
  all_goals (first | exact retZ hQ Tryd.results121 (Desc.re [some 0, some 1] rfl) | exact retZN hQ Tryd.results121 (Desc.re [some 0, some 1] rfl))
end Go.Proofs.YtgfnpcmehnjopaaDoor
end
