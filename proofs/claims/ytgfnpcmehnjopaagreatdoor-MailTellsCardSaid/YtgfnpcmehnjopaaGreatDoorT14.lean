/- Parts of the proofs, joined: TxnQ. -/
import Derived.Test.YtgfnpcmehnjopaaGreatDoorT12
import Derived.Test.YtgfnpcmehnjopaaGreatDoorT13
namespace Go.Proofs.YtgfnpcmehnjopaaGreatDoor
section
open Go Go.RowKit
set_option linter.unusedVariables false
set_option linter.unusedSimpArgs false
variable {K : Nat → Obj → Prop}
def rtF (d : Rdi) (b : List UInt8) : Tk × Rdi := d.take b
def rwsF (b : List UInt8) : Nat → Nat → Rdi → List Wr → (List Wr × Nat × Int) × Rdi
  | 0, used, d, ws => ((ws, used, 0), d)
  | n + 1, used, d, ws =>
    let r := d.take (b.drop used)
    if r.1.2.2 ≠ 0 then ((ws, used, r.1.2.2), r.2) else
    let m := numG b (used + r.1.2.1.toNat) 0 257 4
    if m.2.2 ≠ 0 then ((ws, used, m.2.2), r.2) else
    if m.1 = 0 then rwsF b n m.2.1 r.2 (ws ++ [⟨r.1.1, ⟨#[]⟩, true⟩]) else
    if b.length < m.2.1 + (m.1 - 1) then ((ws, used, 2), r.2) else
    rwsF b n (m.2.1 + (m.1 - 1)) r.2 (ws ++ [⟨r.1.1, subT b m.2.1 (m.1 - 1), false⟩])
def rtakeF (x : Cod Rdi) (b : List UInt8) : (Tx × Nat × Int) × Cod Rdi :=
  let o := numG b 0 0 4611686018427387903 1
  if o.2.2 ≠ 0 then ((Tx.zero, 0, o.2.2), x) else
  let s := numG b o.2.1 0 4611686018427387903 1
  if s.2.2 ≠ 0 then ((Tx.zero, 0, s.2.2), x) else
  let c := ctakeF x.c (b.drop s.2.1)
  if c.2.2 ≠ 0 then ((⟨o.1, s.1, ⟨0, 0, 0⟩, []⟩, 0, c.2.2), x) else
  let m := numG b (s.2.1 + c.2.1) 0 16 4
  if m.2.2 ≠ 0 then ((⟨o.1, s.1, c.1, []⟩, 0, m.2.2), x) else
  let w := rwsF b m.1 m.2.1 x.d []
  if w.1.2.2 ≠ 0 then ((⟨o.1, s.1, c.1, w.1.1⟩, 0, w.1.2.2), ⟨x.c, w.2⟩) else
  ((⟨o.1, s.1, c.1, w.1.1⟩, w.1.2.1, checkF ⟨o.1, s.1, c.1, w.1.1⟩), ⟨c.1, w.2⟩)
theorem rwsF_bad {n used z n5 : Nat} {b : List UInt8} {d' : Rdi} {ws : List Wr} {k : ByteArray} {er e5 : Int} {p5 : UInt64}
    (hb : er ≠ 0 ∨ e5 ≠ 0 ∨ 257 < p5.toNat ∨ (p5.toNat ≠ 0 ∧ b.length < used + z + n5 + (p5.toNat - 1))) :
    (if er ≠ 0 then ((ws, used, er), d') else if (if e5 = 0 ∧ 257 < p5.toNat then 4 else e5) ≠ 0 then ((ws, used, if e5 = 0 ∧ 257 < p5.toNat then 4 else e5), d') else
      if p5.toNat = 0 then rwsF b n (used + z + n5) d' (ws ++ [⟨k, ⟨#[]⟩, true⟩]) else
      if b.length < used + z + n5 + (p5.toNat - 1) then ((ws, used, 2), d') else
      rwsF b n (used + z + n5 + (p5.toNat - 1)) d' (ws ++ [⟨k, subT b (used + z + n5) (p5.toNat - 1), false⟩])) = ((ws, used, if er ≠ 0 then er else if e5 ≠ 0 then e5 else if 257 < p5.toNat then 4 else 2), d') := by
  by_cases h1 : er = 0
  · rw [if_neg (by simpa using h1)]
    by_cases h2 : e5 = 0
    · by_cases h3 : 257 < p5.toNat
      · rw [if_pos (by rw [if_pos ⟨h2, h3⟩]; decide), if_pos ⟨h2, h3⟩, if_neg (by simpa using h1), if_neg (by simpa using h2), if_pos h3]
      · rw [if_neg (by rw [if_neg (fun h => h3 h.2)]; simpa using h2), if_neg (by omega), if_pos (by omega), if_neg (by simpa using h1), if_neg (by simpa using h2), if_neg h3]
    · rw [if_pos (by rw [if_neg (fun h => h2 h.1)]; exact h2), if_neg (fun h => h2 h.1), if_neg (by simpa using h1), if_pos h2]
  · rw [if_pos h1, if_pos h1]
structure RJ (b : List UInt8) (n u0 : Nat) (d0 : Rdi) (k used : Nat) (d : Rdi) (ws : List Wr) : Prop where
  hk : k ≤ n
  hu : used ≤ b.length
  k8 : d.ks.length ≤ 8
  wl : d.ws.length = d.ks.length
  nw : 0 ≤ d.now ∧ d.now ≤ 900000 + k
  len : ws.length = k
  eq : rwsF b n u0 d0 [] = rwsF b (n - k) used d ws
theorem rcomes_ok {r : Rdi} (s : ByteArray) {N : Nat} (h8 : r.ks.length ≤ 8) (hw : r.ws.length = r.ks.length) (hn : 0 ≤ r.now ∧ r.now ≤ N) : (r.comes s).ks.length ≤ 8 ∧ (r.comes s).ws.length = (r.comes s).ks.length ∧ (0 ≤ (r.comes s).now ∧ (r.comes s).now ≤ (N + 1 : Nat)) := by
  unfold Rdi.comes
  split
  · simp only [List.length_append, List.length_cons, List.length_nil]; omega
  · simp only [List.length_set]; omega
theorem dkOf_sz {b : List UInt8} : (∀ p u, dkOf b = .place p u → u ≤ b.length) ∧ (∀ s u, dkOf b = .text s u → u ≤ b.length) := by
  have h0 := tk_le b
  constructor
  · intro p u h
    unfold dkOf at h
    split at h <;> try cases h
    split at h <;> try cases h
    · exact h0
    split at h <;> try cases h
    split at h <;> try cases h
    split at h <;> cases h
  · intro s u h
    unfold dkOf at h
    split at h <;> try cases h
    split at h <;> try cases h
    split at h <;> try cases h
    split at h <;> try cases h
    split at h <;> try cases h
    omega
theorem rtake_ok {r : Rdi} (b : List UInt8) {k : Nat} (h8 : r.ks.length ≤ 8) (hw : r.ws.length = r.ks.length) (hn : 0 ≤ r.now ∧ r.now ≤ 900000 + k) :
    ∃ (key : ByteArray) (z : Nat) (er : Int) (r' : Rdi), r.take b = ((key, (z : Int), er), r') ∧ z ≤ b.length ∧ r'.ks.length ≤ 8 ∧ r'.ws.length = r'.ks.length ∧ (0 ≤ r'.now ∧ r'.now ≤ 900000 + (k + 1 : Nat)) := by
  unfold Rdi.take
  obtain ⟨z1, z2⟩ := dkOf_sz (b := b)
  rcases hb : dkOf b with e | ⟨p, u⟩ | ⟨s, u⟩
  · exact ⟨_, 0, _, _, rfl, Nat.zero_le _, h8, hw, by omega⟩
  · dsimp only
    split
    · exact ⟨_, 0, _, _, rfl, Nat.zero_le _, h8, hw, by omega⟩
    · exact ⟨_, u, _, _, rfl, z1 _ _ hb, h8, hw, by omega⟩
  · dsimp only
    split
    · exact ⟨_, 0, _, _, rfl, Nat.zero_le _, h8, hw, by omega⟩
    · obtain ⟨a1, a2, a3⟩ := rcomes_ok s (N := 900000 + k) h8 hw (by omega)
      exact ⟨_, u, _, _, rfl, z2 _ _ hb, a1, a2, by omega⟩
theorem rwsF_of {b : List UInt8} {n used z n5 : Nat} {d d' : Rdi} {ws : List Wr} {k : ByteArray} {er e5 : Int} {p5 : UInt64} (hd : d.take (b.drop used) = ((k, (z : Int), er), d')) (h5 : tk (b.drop (used + z)) = (p5, n5, e5)) :
    rwsF b (n + 1) used d ws = if er ≠ 0 then ((ws, used, er), d') else if (if e5 = 0 ∧ 257 < p5.toNat then 4 else e5) ≠ 0 then ((ws, used, if e5 = 0 ∧ 257 < p5.toNat then 4 else e5), d') else
      if p5.toNat = 0 then rwsF b n (used + z + n5) d' (ws ++ [⟨k, ⟨#[]⟩, true⟩]) else
      if b.length < used + z + n5 + (p5.toNat - 1) then ((ws, used, 2), d') else
      rwsF b n (used + z + n5 + (p5.toNat - 1)) d' (ws ++ [⟨k, subT b (used + z + n5) (p5.toNat - 1), false⟩]) := by
  have e : numG b (used + z) 0 257 4 = (p5.toNat, used + z + n5, if e5 = 0 ∧ 257 < p5.toNat then 4 else e5) := by
    unfold numG
    rw [if_neg (by simp), h5]
  show (let r := d.take (b.drop used); if r.1.2.2 ≠ 0 then ((ws, used, r.1.2.2), r.2) else
    let m := numG b (used + r.1.2.1.toNat) 0 257 4
    if m.2.2 ≠ 0 then ((ws, used, m.2.2), r.2) else
    if m.1 = 0 then rwsF b n m.2.1 r.2 (ws ++ [⟨r.1.1, ⟨#[]⟩, true⟩]) else
    if b.length < m.2.1 + (m.1 - 1) then ((ws, used, 2), r.2) else
    rwsF b n (m.2.1 + (m.1 - 1)) r.2 (ws ++ [⟨r.1.1, subT b m.2.1 (m.1 - 1), false⟩])) = _
  simp only [hd, Int.toNat_natCast, e]
set_option maxRecDepth 100000 in
set_option maxHeartbeats 4000000 in
theorem rtake_x (x : Cod Rdi) (b : List UInt8) (hl : b.length ≤ 1000000) (hk8 : x.d.ks.length ≤ 8) (hws : x.d.ws.length = x.d.ks.length) (hnow : 0 ≤ x.d.now ∧ x.d.now ≤ 900000) : Sp Tryz.prog K 71 [.ptr 0 0, .sl 1 (bs b)] [x.d.ob3 x.c] fun u hh => u = ttV (rtakeF x b).1 ∧ hh = [(rtakeF x b).2.d.ob3 (rtakeF x b).2.c] := by
  obtain ⟨p1, n1, e1, h1⟩ : ∃ p1 n1 e1, tk b = (p1, n1, e1) := ⟨_, _, _, rfl⟩
  have l1 := tk_le b
  rw [h1] at l1
  obtain ⟨p2, n2, e2, h2⟩ : ∃ p m e, tk (b.drop n1) = (p, m, e) := ⟨_, _, _, rfl⟩
  have l2 := tk_le (b.drop n1)
  rw [h2, List.length_drop] at l2
  obtain ⟨⟨x1, x2, x3⟩, d⟩ := x
  obtain ⟨⟨c1, c2, c3⟩, n3, e3, h3⟩ : ∃ c m e3, ctakeF ⟨x1, x2, x3⟩ (b.drop (n1 + n2)) = (c, m, e3) := ⟨_, _, _, rfl⟩
  have l3 := ctake_le ⟨x1, x2, x3⟩ (b.drop (n1 + n2))
  rw [h3, List.length_drop] at l3
  have ct := fun h => rctake_s (K := K) ⟨x1, x2, x3⟩ (b.drop (n1 + n2)) (by rw [List.length_drop]; omega) h
  rw [h3] at ct
  obtain ⟨p4, n4, e4, h4⟩ : ∃ p m e, tk (b.drop (n1 + n2 + n3)) = (p, m, e) := ⟨_, _, _, rfl⟩
  have l4 := tk_le (b.drop (n1 + n2 + n3))
  rw [h4, List.length_drop] at l4
  dsimp only at l1 l2 l3 l4 hk8 hws hnow ⊢
  have e : rtakeF ⟨⟨x1, x2, x3⟩, d⟩ b = if (if e1 = 0 ∧ 4611686018427387903 < p1.toNat then 1 else e1) ≠ 0 then ((Tx.zero, 0, if e1 = 0 ∧ 4611686018427387903 < p1.toNat then 1 else e1), ⟨⟨x1, x2, x3⟩, d⟩) else
      if (if e2 = 0 ∧ 4611686018427387903 < p2.toNat then 1 else e2) ≠ 0 then ((Tx.zero, 0, if e2 = 0 ∧ 4611686018427387903 < p2.toNat then 1 else e2), ⟨⟨x1, x2, x3⟩, d⟩) else
      if e3 ≠ 0 then ((⟨p1.toNat, p2.toNat, ⟨0, 0, 0⟩, []⟩, 0, e3), ⟨⟨x1, x2, x3⟩, d⟩) else
      if (if e4 = 0 ∧ 16 < p4.toNat then 4 else e4) ≠ 0 then ((⟨p1.toNat, p2.toNat, ⟨c1, c2, c3⟩, []⟩, 0, if e4 = 0 ∧ 16 < p4.toNat then 4 else e4), ⟨⟨x1, x2, x3⟩, d⟩) else
      if (rwsF b p4.toNat (n1 + n2 + n3 + n4) d []).1.2.2 ≠ 0 then ((⟨p1.toNat, p2.toNat, ⟨c1, c2, c3⟩, (rwsF b p4.toNat (n1 + n2 + n3 + n4) d []).1.1⟩, 0, (rwsF b p4.toNat (n1 + n2 + n3 + n4) d []).1.2.2), ⟨⟨x1, x2, x3⟩, (rwsF b p4.toNat (n1 + n2 + n3 + n4) d []).2⟩) else
      ((⟨p1.toNat, p2.toNat, ⟨c1, c2, c3⟩, (rwsF b p4.toNat (n1 + n2 + n3 + n4) d []).1.1⟩, (rwsF b p4.toNat (n1 + n2 + n3 + n4) d []).1.2.1, checkF ⟨p1.toNat, p2.toNat, ⟨c1, c2, c3⟩, (rwsF b p4.toNat (n1 + n2 + n3 + n4) d []).1.1⟩), ⟨⟨c1, c2, c3⟩, (rwsF b p4.toNat (n1 + n2 + n3 + n4) d []).2⟩) := by
    unfold rtakeF numG
    simp only [List.drop_zero, h1, h2, h3, h4, Nat.zero_add, ne_eq, not_true_eq_false, if_false]
  have g1 : (((n1 : Int) + (n2 : Int)).toNat) = n1 + n2 := by omega
  have g2 : (((n1 : Int) + (n2 : Int) + (n3 : Int)).toNat) = n1 + n2 + n3 := by omega
  rw [e]
  refine Sp.of_bodyE Tryz.func71 rfl ?_
  intro Q hQ
  simp only [List.replicate, List.length_cons, List.length_nil, Tryz.ntmps71, Nat.reduceAdd, Nat.reduceSub, List.cons_append, List.nil_append, go_sem]
  have hz : True := trivial
  have hy := yieldedV_eq
  have hL := And.intro @g1 (@g2)
  repeat' (first | (refine WPV.seqK ?_; intro N hN) | refine gA ?_ | (refine gR (M := noM) ?_; intro N hN ops hy) | (refine gD (M := noM) ?_; intro N hN; have hy := yieldedV_eq) | (refine WPV.condK ?_; intro A hA B hB) | (refine here ?_; refine sS ?_) | refine Both.mk ?_ ?_ | ((with_reducible refine CallO.gd 26 ?_); first | refine CallO.toB Tryz.call26 (vrtake_s h1 (by omega) _) ?_ | refine CallO.toB Tryz.call26 (vrtake_s h2 (by simp only [List.length_drop]; omega) _) ?_ | refine CallO.toB Tryz.call26 (vrtake_s h4 (by simp only [List.length_drop]; omega) _) ?_) | ((with_reducible refine CallO.gd 87 ?_); refine CallO.toB Tryz.call87 (ct _) ?_) | ((with_reducible refine CallP.gd 26 ?_); first | refine CallP.toB Tryz.call26 (vrtake_s h1 (by omega) _) ?_ | refine CallP.toB Tryz.call26 (vrtake_s h2 (by simp only [List.length_drop]; omega) _) ?_ | refine CallP.toB Tryz.call26 (vrtake_s h4 (by simp only [List.length_drop]; omega) _) ?_) | ((with_reducible refine CallP.gd 87 ?_); refine CallP.toB Tryz.call87 (ct _) ?_) | (refine hN _ ?_; try clear hN N; try clear hy ops) | (refine hA ?_; clear hA A hB B; try simp only [hz]) | (refine hB ?_; clear hA A hB B; try simp only [hz]) | (refine gG ?_ ?_ <;> (intro hz; have h := nm hz; try (exfalso; omega)) <;> (have hz := nz hz; try subst hz)) | (rw [if_pos (show _ ∧ _ from ⟨by omega, by omega⟩)]; refine sS ?_) | refine gT ?_ | (clear hN N))
  all_goals (try unfold Tx.zero at hQ)
  all_goals (try (first | exact retZ hQ Tryz.results71 (Desc.re [some 0] rfl) | exact retZN hQ Tryz.results71 (Desc.re [some 0] rfl)))
  obtain rfl : e1 = 0 := by omega
  obtain rfl : e2 = 0 := by omega
  obtain rfl : e3 = 0 := by omega
  obtain rfl : e4 = 0 := by omega
  have q1 : p1.toNat ≤ 4611686018427387903 := by omega
  have q2 : p2.toNat ≤ 4611686018427387903 := by omega
  have q4 : p4.toNat ≤ 16 := by omega
  rw [if_neg (show ¬ ((if (0 : Int) = 0 ∧ 4611686018427387903 < p1.toNat then (1 : Int) else 0) ≠ 0) by rw [if_neg (by omega)]; simp), if_neg (show ¬ ((if (0 : Int) = 0 ∧ 4611686018427387903 < p2.toNat then (1 : Int) else 0) ≠ 0) by rw [if_neg (by omega)]; simp), if_neg (show ¬ ((0 : Int) ≠ 0) by simp), if_neg (show ¬ ((if (0 : Int) = 0 ∧ 16 < p4.toNat then (4 : Int) else 0) ≠ 0) by rw [if_neg (by omega)]; simp)] at hQ
  generalize p4.toNat = n at *
  obtain ⟨u0, hu0⟩ : ∃ u0, u0 = n1 + n2 + n3 + n4 := ⟨_, rfl⟩
  rw [← hu0] at hQ
  refine WPV.loopW (α := Nat × Nat × Rdi × List Wr) (fun q => n - q.1) (fun q => ⟨[.ptr 0 0, .sl 1 (bs b), .any, .any, .ptr 1 0, .any, .any, .ptr 2 0, .any, .sc (.int .i64 (q.2.1 : Int)), .any, .any, .any, .any, .any, .any, .any, .sc (.int .u64 (n : Int)), .any, .any, .sc (.int .i64 ((q.1 : Nat) : Int)), .any, .any, .any, .any, .any, .any, .any, .any, .any, .any, .any, .any, .any, .any, .any, .any, .any, .any, .any, .any, .any, .any, .any, .any, .any, .any, .any, .any, .any, .any, .any, .any, .any, .any, .any, .any, .any, .any, .any, .any, .any, .any, .any, .any, .any, .any, .any, .any, .any, .any, .any, .any, .any, .any, .any, .any, .any, .any, .any, .any, .any, .any, .any, .any, .any, .any, .any, .any, .any, .any, .any, .any, .any, .any, .any, .any, .any, .any, .any, .any, .any, .any, .any, .any, .any, .any, .any, .any, .any, .any, .any, .any, .any, .any, .any, .any, .any, .any, .any, .any, .any, .any, .any, .any, .any, .any, .any, .any, .any, .any, .any, .any, .any, .any, .any, .any, .any, .any, .any, .any, .any, .any, .any, .any, .any, .any, .any, .any, .any, .any, .any, .any, .any, .any, .any, .any, .any, .any, .any, .any, .any, .any, .any, .any, .any, .any, .any, .any, .any, .any, .any, .any, .any, .any, .any, .any, .any, .any, .any, .any, .any, .any, .any, .any, .any, .any, .any, .any, .any, .any, .any, .any, .any], [.cells [.sc (.int .i64 x1), .sc (.int .i64 x2), .sc (.int .i64 x3), .sl 1 (ds q.2.2.1.ks), .sl 1 (is q.2.2.1.ws), .sc (.int .i64 q.2.2.1.now)],
    .cells [.sc (.int .i64 0), .sc (.int .i64 0), .sc (.int .i64 0), .sc (.int .i64 0), .sc (.int .i64 0), .sc (.slice none 0 0)],
    .cells [.sc (.int .i64 (p1.toNat : Int)), .sc (.int .i64 (p2.toNat : Int)), .sc (.int .i64 c1), .sc (.int .i64 c2), .sc (.int .i64 c3), .own 3 (wrl q.2.2.2) 3], .tail]⟩) (fun q => RJ b n u0 d q.1 q.2.1 q.2.2.1 q.2.2.2) (0, u0, d, []) (((Desc.own0H 2 5 3 rfl rfl).trans (Desc.re [some 0, some 1, some 2, some 4] rfl)).trans (by rw [hu0]; exact Desc.weakA)) ⟨Nat.zero_le _, by dsimp only; omega, hk8, hws, by dsimp only; omega, rfl, rfl⟩ (fun q hJ H => ?_)
  obtain ⟨k, u, r, ws⟩ := q
  dsimp only at hJ H ⊢
  obtain ⟨j1, j2, j3, j4, j5, j6, j7⟩ := id hJ
  by_cases h : k < n
  · obtain ⟨key, z, er, r', hd, hz, j3', j4', j5'⟩ := rtake_ok (b.drop u) j3 j4 j5
    have ctk := rdtake3_s (K := K) ⟨x1, x2, x3⟩ r (b.drop u) (by rw [List.length_drop]; omega) j3 j4 (by omega)
    rw [hd] at ctk
    rw [List.length_drop] at hz
    obtain ⟨p5, n5, e5, h5⟩ : ∃ p m e, tk (b.drop (u + z)) = (p, m, e) := ⟨_, _, _, rfl⟩
    have l5 := tk_le (b.drop (u + z))
    rw [h5, List.length_drop] at l5
    dsimp only at l5
    have g1 : ((u : Int) + (z : Int)).toNat = u + z := by omega
    have es := rwsF_of (n := n - (k + 1)) (ws := ws) hd h5
    rw [show n - (k + 1) + 1 = n - k by omega] at es
    rw [es] at j7
    by_cases hb : er ≠ 0 ∨ e5 ≠ 0 ∨ 257 < p5.toNat ∨ (p5.toNat ≠ 0 ∧ b.length < u + z + n5 + (p5.toNat - 1))
    · rw [rwsF_bad hb] at j7
      have hne : (if er ≠ 0 then er else if e5 ≠ 0 then e5 else if 257 < p5.toNat then 4 else 2) ≠ 0 := by
        split
        · assumption
        · split
          · assumption
          · split <;> decide
      rw [j7] at hQ
      simp only [if_pos hne] at hQ
      clear H es hne
      have g2 := bs_unbs
      refine loopV ?_
      have hz : True := trivial
      have hy := yieldedV_eq
      have hL := @g1
      repeat' (first | (refine WPV.seqK ?_; intro N hN) | refine gA ?_ | (refine gR (M := noM) ?_; intro N hN ops hy) | (refine gD (M := noM) ?_; intro N hN; have hy := yieldedV_eq) | (refine WPV.condK ?_; intro A hA B hB) | (refine here ?_; refine sS ?_) | refine Both.mk ?_ ?_ | ((with_reducible refine CallO.gd 88 ?_); refine CallO.frB [0] Tryz.call88 (ctk) ?_) | ((with_reducible refine CallO.gd 26 ?_); refine CallO.toB Tryz.call26 (vrtake_s h5 (by simp only [List.length_drop]; omega) _) ?_) | ((with_reducible refine CallP.gd 88 ?_); refine CallP.frB [0] 0 Tryz.call88 (ctk) ?_) | ((with_reducible refine CallP.gd 26 ?_); refine CallP.toB Tryz.call26 (vrtake_s h5 (by simp only [List.length_drop]; omega) _) ?_) | (refine hN _ ?_; try clear hN N; try clear hy ops) | (refine hA ?_; clear hA A hB B; try simp only [hz]) | (refine hB ?_; clear hA A hB B; try simp only [hz]) | (refine gG ?_ ?_ <;> (intro hz; have h := nm hz; try (exfalso; omega)) <;> (have hz := nz hz; try subst hz)) | (rw [if_pos (show _ ∧ _ from ⟨by omega, by omega⟩)]; refine sS ?_) | refine gT ?_ | (clear hN N))
      all_goals (try (first | exact retZ hQ Tryz.results71 (Desc.re [some 0] rfl) | exact retZN hQ Tryz.results71 (Desc.re [some 0] rfl)))
    · simp only [not_or, Decidable.not_not] at hb
      obtain ⟨rfl, rfl, hb3, hb4⟩ := hb
      rw [if_neg (by simp), if_neg (by rw [if_neg (by omega)]; simp)] at j7
      by_cases h0 : p5.toNat = 0
      · rw [if_pos h0] at j7
        have H' := H (k + 1, u + z + n5, r', ws ++ [⟨key, ⟨#[]⟩, true⟩]) ⟨h, by dsimp only; omega, j3', j4', by dsimp only; omega, by simp [j6], j7⟩ (by dsimp only; omega)
        clear H
        dsimp only at H'
        refine loopV ?_
        have hz : True := trivial
        have hy := yieldedV_eq
        have hL := @g1
        repeat' (first | (refine WPV.seqK ?_; intro N hN) | refine gA ?_ | (refine gR (M := noM) ?_; intro N hN ops hy) | (refine gD (M := noM) ?_; intro N hN; have hy := yieldedV_eq) | (refine WPV.condK ?_; intro A hA B hB) | (refine here ?_; refine sS ?_) | refine Both.mk ?_ ?_ | ((with_reducible refine CallO.gd 88 ?_); refine CallO.frB [0] Tryz.call88 (ctk) ?_) | ((with_reducible refine CallO.gd 26 ?_); refine CallO.toB Tryz.call26 (vrtake_s h5 (by simp only [List.length_drop]; omega) _) ?_) | ((with_reducible refine CallP.gd 88 ?_); refine CallP.frB [0] 0 Tryz.call88 (ctk) ?_) | ((with_reducible refine CallP.gd 26 ?_); refine CallP.toB Tryz.call26 (vrtake_s h5 (by simp only [List.length_drop]; omega) _) ?_) | (refine hN _ ?_; try clear hN N; try clear hy ops) | (refine hA ?_; clear hA A hB B; try simp only [hz]) | (refine hB ?_; clear hA A hB B; try simp only [hz]) | (refine gG ?_ ?_ <;> (intro hz; have h := nm hz; try (exfalso; omega)) <;> (have hz := nz hz; try subst hz)) | (rw [if_pos (show _ ∧ _ from ⟨by omega, by omega⟩)]; refine sS ?_) | refine gT ?_ | (clear hN N))
        have hL := And.intro @wrl_app (@wrl_one)
        all_goals (exact rndZ (Desc.re [some 0, some 1, some 2, some 4] rfl) (H'))
      · rw [if_neg h0, if_neg (by omega)] at j7
        have H' := H (k + 1, u + z + n5 + (p5.toNat - 1), r', ws ++ [⟨key, subT b (u + z + n5) (p5.toNat - 1), false⟩]) ⟨h, by dsimp only; omega, j3', j4', by dsimp only; omega, by simp [j6], j7⟩ (by dsimp only; omega)
        clear H
        dsimp only at H'
        have g2 : (⟨(List.drop ((u : Int) + (z : Int) + (n5 : Int)).toNat (List.take ((u : Int) + (z : Int) + (n5 : Int) + (p5.toNat : Int) - 1).toNat b)).toArray⟩ : ByteArray) = subT b (u + z + n5) (p5.toNat - 1) := by
          rw [show ((u : Int) + (z : Int) + (n5 : Int)).toNat = u + z + n5 by omega, show ((u : Int) + (z : Int) + (n5 : Int) + (p5.toNat : Int) - 1).toNat = u + z + n5 + (p5.toNat - 1) by omega, sub_e]
        refine loopV ?_
        have hz : True := trivial
        have hy := yieldedV_eq
        have hL := And.intro @g1 (And.intro @g2 (@bs_unbs))
        repeat' (first | (refine WPV.seqK ?_; intro N hN) | refine gA ?_ | (refine gR (M := noM) ?_; intro N hN ops hy) | (refine gD (M := noM) ?_; intro N hN; have hy := yieldedV_eq) | (refine WPV.condK ?_; intro A hA B hB) | (refine here ?_; refine sS ?_) | refine Both.mk ?_ ?_ | ((with_reducible refine CallO.gd 88 ?_); refine CallO.frB [0] Tryz.call88 (ctk) ?_) | ((with_reducible refine CallO.gd 26 ?_); refine CallO.toB Tryz.call26 (vrtake_s h5 (by simp only [List.length_drop]; omega) _) ?_) | ((with_reducible refine CallP.gd 88 ?_); refine CallP.frB [0] 0 Tryz.call88 (ctk) ?_) | ((with_reducible refine CallP.gd 26 ?_); refine CallP.toB Tryz.call26 (vrtake_s h5 (by simp only [List.length_drop]; omega) _) ?_) | (refine hN _ ?_; try clear hN N; try clear hy ops) | (refine hA ?_; clear hA A hB B; try simp only [hz]) | (refine hB ?_; clear hA A hB B; try simp only [hz]) | (refine gG ?_ ?_ <;> (intro hz; have h := nm hz; try (exfalso; omega)) <;> (have hz := nz hz; try subst hz)) | (rw [if_pos (show _ ∧ _ from ⟨by omega, by omega⟩)]; refine sS ?_) | refine gT ?_ | (clear hN N))
        have hL := And.intro @wrl_app (@wrl_one)
        all_goals (exact rndZ (Desc.re [some 0, some 1, some 2, some 4] rfl) (H'))
  · obtain rfl : k = n := by omega
    rw [Nat.sub_self] at j7
    rw [j7] at hQ
    simp only [rwsF, ne_eq, not_true_eq_false, if_false] at hQ
    have tc := rtcheck_s (K := K) ⟨p1.toNat, p2.toNat, ⟨c1, c2, c3⟩, ws⟩ (by dsimp only; omega)
    dsimp only [txV] at tc
    clear H
    refine WPV.desc (Desc.weakA (tm' := [.ptr 0 0, .sl 1 (bs b), .any, .any, .ptr 1 0, .any, .any, .ptr 2 0, .any, .sc (.int .i64 (u : Int)), .any, .any, .any, .any, .any, .any, .any, .sc (.int .u64 (k : Int)), .any, .any, .sc (.int .i64 (k : Int)), .any, .any, .any, .any, .any, .any, .any, .any, .any, .any, .any, .any, .any, .any, .any, .any, .any, .any, .any, .any, .any, .any, .any, .any, .any, .any, .any, .any, .any, .any, .any, .any, .any, .any, .any, .any, .any, .any, .any, .any, .any, .any, .any, .any, .any, .any, .any, .any, .any, .any, .any, .any, .any, .any, .any, .any, .any, .any, .any, .any, .any, .any, .any, .any, .any, .any, .any, .any, .any, .any, .any, .any, .any, .any, .any, .any, .any, .any, .any, .any, .any, .any, .any, .any, .any, .any, .any, .any, .any, .any, .any, .any, .any, .any, .any, .any, .any, .any, .any, .any, .any, .any, .any, .any, .any, .any, .any, .any, .any, .any, .any, .any, .any, .any, .any, .any, .any, .any, .any, .any, .any, .any, .any, .any, .any, .any, .any, .any, .any, .any, .any, .any, .any, .any, .any, .any, .any, .any, .any, .any, .any, .any, .any, .any, .any, .any, .any, .any, .any, .any, .any, .any, .any, .any, .any, .any, .any, .any, .any, .any, .any, .any, .any, .any, .any, .any, .any, .any, .any, .any, .any, .any, .any]) (h' := [.cells [.sc (.int .i64 x1), .sc (.int .i64 x2), .sc (.int .i64 x3), .sl 1 (ds r.ks), .sl 1 (is r.ws), .sc (.int .i64 r.now)],
    .cells [.sc (.int .i64 0), .sc (.int .i64 0), .sc (.int .i64 0), .sc (.int .i64 0), .sc (.int .i64 0), .sc (.slice none 0 0)],
    .cells [.sc (.int .i64 (p1.toNat : Int)), .sc (.int .i64 (p2.toNat : Int)), .sc (.int .i64 c1), .sc (.int .i64 c2), .sc (.int .i64 c3), .sl 3 (wrl ws)], .tail])) ?_
    refine loopV ?_
    have hz : True := trivial
    have hy := yieldedV_eq
    have hL := True.intro
    repeat' (first | (refine WPV.seqK ?_; intro N hN) | refine gA ?_ | (refine gR (M := noM) ?_; intro N hN ops hy) | (refine gD (M := noM) ?_; intro N hN; have hy := yieldedV_eq) | (refine WPV.condK ?_; intro A hA B hB) | (refine here ?_; refine sS ?_) | refine Both.mk ?_ ?_ | ((with_reducible refine CallO.gd 32 ?_); refine CallO.frB [] Tryz.call32 (tc) ?_) | ((with_reducible refine CallP.gd 32 ?_); refine CallP.frB [] 0 Tryz.call32 (tc) ?_) | (refine hN _ ?_; try clear hN N; try clear hy ops) | (refine hA ?_; clear hA A hB B; try simp only [hz]) | (refine hB ?_; clear hA A hB B; try simp only [hz]) | (refine gG ?_ ?_ <;> (intro hz; have h := nm hz; try (exfalso; omega)) <;> (have hz := nz hz; try subst hz)) | (rw [if_pos (show _ ∧ _ from ⟨by omega, by omega⟩)]; refine sS ?_) | refine gT ?_ | (clear hN N))
    all_goals (first | exact retZ hQ Tryz.results71 (Desc.re [some 0] rfl) | exact retZN hQ Tryz.results71 (Desc.re [some 0] rfl))
set_option maxRecDepth 100000 in
set_option maxHeartbeats 4000000 in
theorem rTake_x (x : Cod Rdi) (b : List UInt8) (hl : b.length ≤ 1000000) (hk8 : x.d.ks.length ≤ 8) (hws : x.d.ws.length = x.d.ks.length) (hnow : 0 ≤ x.d.now ∧ x.d.now ≤ 900000) {t : Tx} {n : Nat} {e : Int} {y : Cod Rdi} (h : rtakeF x b = ((t, n, e), y)) :
    Sp Tryz.prog K 54 [.ptr 0 0, .sl 1 (bs b)] [x.d.ob3 x.c] fun u hh => u = ttV (if e ≠ 0 then (Tx.zero, 0, e) else (t, n, 0)) ∧ hh = [if e ≠ 0 then x.d.ob3 x.c else y.d.ob3 y.c] := by
  have ct := rtake_x (K := K) x b hl hk8 hws hnow
  rw [h] at ct
  obtain ⟨⟨x1, x2, x3⟩, d⟩ := x
  obtain ⟨o, s, ⟨c1, c2, c3⟩, w⟩ := t
  obtain ⟨⟨y1, y2, y3⟩, d2⟩ := y
  dsimp only [txV] at ct
  by_cases he : e ≠ 0
  · rw [if_pos he, if_pos he]
    refine Sp.of_bodyE Tryz.func54 rfl ?_
    intro Q hQ
    simp only [List.replicate, List.length_cons, List.length_nil, Tryz.ntmps54, Nat.reduceAdd, Nat.reduceSub, List.cons_append, List.nil_append, go_sem]
    have hz : True := trivial
    have hy := yieldedV_eq
    have hL := True.intro
    repeat' (first | (refine WPV.seqK ?_; intro N hN) | refine gA ?_ | (refine gR (M := noM) ?_; intro N hN ops hy) | (refine gD (M := noM) ?_; intro N hN; have hy := yieldedV_eq) | (refine WPV.condK ?_; intro A hA B hB) | (refine here ?_; refine sS ?_) | refine Both.mk ?_ ?_ | ((with_reducible refine CallO.gd 71 ?_); refine CallO.frB [2] Tryz.call71 (ct) ?_) | (refine hN _ ?_; try clear hN N; try clear hy ops) | (refine hA ?_; clear hA A hB B; try simp only [hz]) | (refine hB ?_; clear hA A hB B; try simp only [hz]) | (refine gG ?_ ?_ <;> (intro hz; have h := nm hz; try (exfalso; omega)) <;> (have hz := nz hz; try subst hz)) | (rw [if_pos (show _ ∧ _ from ⟨by omega, by omega⟩)]; refine sS ?_) | refine gT ?_ | (clear hN N))
    all_goals (try unfold Tx.zero at hQ)
    all_goals (first | exact retZ hQ Tryz.results54 (Desc.re [some 0] rfl) | exact retZN hQ Tryz.results54 (Desc.re [some 0] rfl))
  · rw [if_neg he, if_neg he]
    obtain rfl := Decidable.not_not.1 he
    refine Sp.of_bodyE Tryz.func54 rfl ?_
    intro Q hQ
    simp only [List.replicate, List.length_cons, List.length_nil, Tryz.ntmps54, Nat.reduceAdd, Nat.reduceSub, List.cons_append, List.nil_append, go_sem]
    have hz : True := trivial
    have hy := yieldedV_eq
    have hL := True.intro
    repeat' (first | (refine WPV.seqK ?_; intro N hN) | refine gA ?_ | (refine gR (M := noM) ?_; intro N hN ops hy) | (refine gD (M := noM) ?_; intro N hN; have hy := yieldedV_eq) | (refine WPV.condK ?_; intro A hA B hB) | (refine here ?_; refine sS ?_) | refine Both.mk ?_ ?_ | ((with_reducible refine CallO.gd 71 ?_); refine CallO.frB [2] Tryz.call71 (ct) ?_) | (refine hN _ ?_; try clear hN N; try clear hy ops) | (refine hA ?_; clear hA A hB B; try simp only [hz]) | (refine hB ?_; clear hA A hB B; try simp only [hz]) | (refine gG ?_ ?_ <;> (intro hz; have h := nm hz; try (exfalso; omega)) <;> (have hz := nz hz; try subst hz)) | (rw [if_pos (show _ ∧ _ from ⟨by omega, by omega⟩)]; refine sS ?_) | refine gT ?_ | (clear hN N))
    all_goals (first | exact retZ hQ Tryz.results54 (Desc.re [some 0] rfl) | exact retZN hQ Tryz.results54 (Desc.re [some 0] rfl))
end
section
open Go Go.RowKit
set_option linter.unusedVariables false
set_option linter.unusedSimpArgs false
variable {K : Nat → Obj → Prop}
theorem rput_len {r : Rdi} (h8 : r.ks.length ≤ 8) (k : ByteArray) : (r.put k).1.1.length ≤ 100 := by
  unfold Rdi.put
  split
  · simp
  · split
    · have hb := idx_bd k r.ks 0
      have := vput_len (n := (r.at_ k + 1).toNat) (by unfold Rdi.at_; omega)
      dsimp only; omega
    · have h1 := vput_len (n := k.size) (by omega)
      simp only [List.length_append, List.length_cons, List.length_nil, size_toList]; omega
theorem rput_ok {r : Rdi} (s : ByteArray) {k : Nat} (h8 : r.ks.length ≤ 8) (hw : r.ws.length = r.ks.length) (hn : 0 ≤ r.now ∧ r.now ≤ 900000 + k) :
    (r.put s).2.ks.length ≤ 8 ∧ (r.put s).2.ws.length = (r.put s).2.ks.length ∧ (0 ≤ (r.put s).2.now ∧ (r.put s).2.now ≤ 900000 + (k + 1 : Nat)) := by
  unfold Rdi.put
  split
  · exact ⟨h8, hw, by dsimp only; omega⟩
  · split
    · exact ⟨h8, hw, by dsimp only; omega⟩
    · obtain ⟨a1, a2, a3⟩ := rcomes_ok s (N := 900000 + k) h8 hw (by omega)
      exact ⟨a1, a2, by dsimp only; omega⟩
structure RWJ (w : List Wr) (d0 : Rdi) (h : List UInt8) (k : Nat) (b : List UInt8) (d : Rdi) : Prop where
  hk : k ≤ w.length
  k8 : d.ks.length ≤ 8
  wl : d.ws.length = d.ks.length
  nw : 0 ≤ d.now ∧ d.now ≤ 900000 + k
  len : b.length ≤ h.length + 1000 * k
  eq : h ++ (wputF rpF d0 w).1 = b ++ (wputF rpF d (w.drop k)).1
  ed : (wputF rpF d0 w).2 = (wputF rpF d (w.drop k)).2
theorem RWJ.nxt {w : List Wr} {d0 : Rdi} {h : List UInt8} {k : Nat} {b : List UInt8} {d d' : Rdi} {p : List UInt8 × Int} {a : Wr} (j : RWJ w d0 h k b d) (hk : k < w.length) (ha : w[k] = a) (hs : a.v.size ≤ 256) (hp : d.put a.k = (p, d')) : RWJ w d0 h (k + 1) (b ++ p.1 ++ a.val) d' := by
  have e : wputF rpF d (w.drop k) = (p.1 ++ a.val ++ (wputF rpF d' (w.drop (k + 1))).1, (wputF rpF d' (w.drop (k + 1))).2) := by
    rw [List.drop_eq_getElem_cons hk, ha, wputF_cons]
    simp only [rpF, hp]
  have l1 := rput_len j.k8 a.k
  obtain ⟨o1, o2, o3⟩ := rput_ok a.k j.k8 j.wl j.nw
  rw [hp] at l1 o1 o2 o3
  have l2 : a.val.length ≤ 300 := by
    unfold Wr.val
    split
    · simp
    · have := vput_len (n := a.v.size + 1) (by omega)
      simp only [List.length_append, size_toList]; omega
  have l0 := j.len
  refine ⟨hk, o1, o2, o3, by simp only [List.length_append]; dsimp only at l1; omega, ?_, ?_⟩
  · rw [j.eq, e]; simp
  · rw [j.ed, e]
set_option maxRecDepth 100000 in
set_option maxHeartbeats 2000000 in
theorem rput_x (x : Cod Rdi) (t : Tx) (hk8 : x.d.ks.length ≤ 8) (hws : x.d.ws.length = x.d.ks.length) (hnow : 0 ≤ x.d.now ∧ x.d.now ≤ 900000) (hl : t.w.length ≤ 9223372036854775807) : Sp Tryz.prog K 51 [.ptr 0 0, txV t] [x.d.ob3 x.c] fun u hh => u = byV (tputF rpF x t).1 ∧ hh = [(tputF rpF x t).2.d.ob3 (tputF rpF x t).2.c] := by
  have ck := rtcheck_s (K := K) t hl
  obtain ⟨o, s, c, w⟩ := t
  have cp := fun h => rcput_s (K := K) x.c c h
  have cpl := cputF_len x.c c
  obtain ⟨⟨x1, x2, x3⟩, d⟩ := x
  obtain ⟨y1, y2, y3⟩ := c
  dsimp only [clkV, txV] at ck cp hl cpl hk8 hws hnow ⊢
  by_cases hc : checkF ⟨o, s, ⟨y1, y2, y3⟩, w⟩ ≠ 0
  · have e : tputF rpF ⟨⟨x1, x2, x3⟩, d⟩ ⟨o, s, ⟨y1, y2, y3⟩, w⟩ = (([], checkF ⟨o, s, ⟨y1, y2, y3⟩, w⟩), ⟨⟨x1, x2, x3⟩, d⟩) := by unfold tputF; rw [if_pos hc]
    rw [e]
    generalize checkF ⟨o, s, ⟨y1, y2, y3⟩, w⟩ = q at *
    refine Sp.of_bodyE Tryz.func51 rfl ?_
    intro Q hQ
    simp only [List.replicate, List.length_cons, List.length_nil, Tryz.ntmps51, Nat.reduceAdd, Nat.reduceSub, List.cons_append, List.nil_append, go_sem]
    have hz : True := trivial
    have hy := yieldedV_eq
    have hL := True.intro
    repeat' (first | (refine WPV.seqK ?_; intro N hN) | refine gA ?_ | (refine gR (M := noM) ?_; intro N hN ops hy) | (refine gD (M := noM) ?_; intro N hN; have hy := yieldedV_eq) | (refine WPV.condK ?_; intro A hA B hB) | (refine here ?_; refine sS ?_) | refine Both.mk ?_ ?_ | ((with_reducible refine CallO.gd 32 ?_); refine CallO.frB [] Tryz.call32 (ck) ?_) | (refine hN _ ?_; try clear hN N; try clear hy ops) | (refine hA ?_; clear hA A hB B; try simp only [hz]) | (refine hB ?_; clear hA A hB B; try simp only [hz]) | (refine gG ?_ ?_ <;> (intro hz; have h := nm hz; try (exfalso; omega)) <;> (have hz := nz hz; try subst hz)) | (rw [if_pos (show _ ∧ _ from ⟨by omega, by omega⟩)]; refine sS ?_) | refine gT ?_ | (clear hN N))
    all_goals (try unfold byV at hQ)
    all_goals (first | exact retZ hQ Tryz.results51 (Desc.re [some 0] rfl) | exact retZN hQ Tryz.results51 (Desc.re [some 0] rfl))
  · have hc := Decidable.not_not.1 hc
    obtain ⟨⟨o1, o2⟩, ⟨s1, s2⟩, hr, hw, ha, _⟩ := check_ok hc
    have e : tputF rpF ⟨⟨x1, x2, x3⟩, d⟩ ⟨o, s, ⟨y1, y2, y3⟩, w⟩ = ((Tx.headF ⟨x1, x2, x3⟩ ⟨o, s, ⟨y1, y2, y3⟩, w⟩ ++ (wputF rpF d w).1, 0), ⟨⟨y1, y2, y3⟩, (wputF rpF d w).2⟩) := by unfold tputF; rw [if_neg (by rw [hc]; simp)]
    rw [e]
    rw [hc] at ck
    dsimp only at o1 o2 s1 s2 hw ha hr
    generalize hcp : cputF ⟨x1, x2, x3⟩ ⟨y1, y2, y3⟩ = cpf at cp cpl
    have lo := vput_len (n := o.toNat) (by omega)
    have ls := vput_len (n := s.toNat) (by omega)
    have lw := vput_len (n := w.length) (by omega)
    have hh : Tx.headF ⟨x1, x2, x3⟩ ⟨o, s, ⟨y1, y2, y3⟩, w⟩ = vput o.toNat ++ vput s.toNat ++ cpf.1 ++ vput w.length := by unfold Tx.headF; rw [← hcp]
    have hhl : (Tx.headF ⟨x1, x2, x3⟩ ⟨o, s, ⟨y1, y2, y3⟩, w⟩).length ≤ 60 := by rw [hh]; simp only [List.length_append]; omega
    rw [hh] at hhl ⊢
    clear e hh
    refine Sp.of_bodyE Tryz.func51 rfl ?_
    intro Q hQ
    simp only [List.replicate, List.length_cons, List.length_nil, Tryz.ntmps51, Nat.reduceAdd, Nat.reduceSub, List.cons_append, List.nil_append, go_sem]
    have hz : True := trivial
    have hy := yieldedV_eq
    have hL := True.intro
    repeat' (first | (refine WPV.seqK ?_; intro N hN) | refine gA ?_ | (refine gR (M := noM) ?_; intro N hN ops hy) | (refine gD (M := noM) ?_; intro N hN; have hy := yieldedV_eq) | (refine WPV.condK ?_; intro A hA B hB) | (refine here ?_; refine sS ?_) | refine Both.mk ?_ ?_ | ((with_reducible refine CallO.gd 32 ?_); refine CallO.frB [] Tryz.call32 (ck) ?_) | ((with_reducible refine CallO.gd 21 ?_); first | refine CallO.frB [] Tryz.call21 (vrputO_s (m := o) (by omega) (by omega)) ?_ | refine CallO.toB Tryz.call21 (vrput_s (m := s) (by omega) (by omega) _) ?_ | refine CallO.toB Tryz.call21 (vrput_s (m := (w.length : Int)) (by omega) (by omega) _) ?_) | ((with_reducible refine CallO.gd 68 ?_); refine CallO.toB Tryz.call68 (cp _) ?_) | ((with_reducible refine CallP.gd 21 ?_); first | refine CallP.frB [] 1 Tryz.call21 (vrputO_s (m := o) (by omega) (by omega)) ?_ | refine CallP.toB Tryz.call21 (vrput_s (m := s) (by omega) (by omega) _) ?_ | refine CallP.toB Tryz.call21 (vrput_s (m := (w.length : Int)) (by omega) (by omega) _) ?_) | ((with_reducible refine CallP.gd 68 ?_); refine CallP.toB Tryz.call68 (cp _) ?_) | (refine hN _ ?_; try clear hN N; try clear hy ops) | (refine hA ?_; clear hA A hB B; try simp only [hz]) | (refine hB ?_; clear hA A hB B; try simp only [hz]) | (refine gG ?_ ?_ <;> (intro hz; have h := nm hz; try (exfalso; omega)) <;> (have hz := nz hz; try subst hz)) | (rw [if_pos (show _ ∧ _ from ⟨by omega, by omega⟩)]; refine sS ?_) | refine gT ?_ | (clear hN N))
    generalize vput o.toNat ++ vput s.toNat ++ cpf.1 ++ vput w.length = hd at *
    refine WPV.loopW (α := Nat × List UInt8 × Rdi) (fun s => w.length - s.1) (fun q => ⟨[.ptr 0 0, .any, .any, .ptr 1 0, .any, .any, .own 1 (bs q.2.1) 2, .any, .any, .sc (.int .i64 ((q.1 : Nat) : Int)), .any, .any, .any, .any, .any, .any, .any, .any, .any, .any, .any, .any, .any, .any, .any, .any, .any, .any, .any, .any, .any, .any, .any, .any, .any, .any, .any, .any, .any, .any, .any, .any, .any, .any, .any, .any, .any, .any, .any, .any, .any, .any, .any, .any, .any, .any, .any, .any, .any, .any, .any, .any, .any, .any, .any, .any, .any, .any, .any, .any, .any, .any, .any, .any, .any, .any, .any, .any, .any, .any, .any, .any, .any, .any, .any, .any, .any, .any, .any, .any, .any, .any, .any, .any, .any, .any, .any, .any, .any, .any, .any, .any, .any, .any, .any], [.cells [.sc (.int .i64 x1), .sc (.int .i64 x2), .sc (.int .i64 x3), .sl 1 (ds q.2.2.ks), .sl 1 (is q.2.2.ws), .sc (.int .i64 q.2.2.now)], .cells [.sc (.int .i64 o), .sc (.int .i64 s), .sc (.int .i64 y1), .sc (.int .i64 y2), .sc (.int .i64 y3), .sl 3 (wrl w)], .tail]⟩) (fun q => RWJ w d hd q.1 q.2.1 q.2.2) (0, hd, d) ((Desc.re [some 0, some 1, some 5] rfl).trans Desc.weakA) ⟨Nat.zero_le _, hk8, hws, by dsimp only; omega, by simp, rfl, rfl⟩ (fun q hJ H => ?_)
    obtain ⟨k, b, d2⟩ := q
    dsimp only at hJ H ⊢
    obtain ⟨j1, j2, j3, j4, j5, j6, j7⟩ := id hJ
    by_cases h : k < w.length
    · obtain ⟨a, hget⟩ : ∃ a, w[k] = a := ⟨_, rfl⟩
      have hget2 : w[k]? = some a := by rw [← hget]; exact List.getElem?_eq_getElem h
      obtain ⟨a1, a2, a3⟩ := ha a (hget ▸ List.getElem_mem h)
      obtain ⟨p, d3, hp⟩ : ∃ p d3, d2.put a.k = (p, d3) := ⟨_, _, rfl⟩
      have pl := rput_len j2 a.k
      have cd := rdput3_s (K := K) ⟨x1, x2, x3⟩ d2 a.k j2 j3 (by omega)
      rw [hp] at pl cd
      dsimp only at pl
      have lv := vput_len (n := a.v.size + 1) (by omega)
      have lv2 := size_toList a.v
      have hv1 : ((a.v.size : Int) + 1).toNat = a.v.size + 1 := by omega
      have H' := H (k + 1, b ++ p.1 ++ a.val, d3) (hJ.nxt h hget a2 hp) (by dsimp only; omega)
      clear H
      dsimp only at H'
      obtain ⟨ak, av, ag⟩ := a
      dsimp only at hp pl lv lv2 hv1 H' a1 a2 a3 cd
      cases ag with
      | true =>
        refine loopV ?_
        have hz : True := trivial
        have hy := yieldedV_eq
        have hL := And.intro @hget2 (@hv1)
        repeat' (first | (refine WPV.seqK ?_; intro N hN) | refine gA ?_ | (refine gR (M := noM) ?_; intro N hN ops hy) | (refine gD (M := noM) ?_; intro N hN; have hy := yieldedV_eq) | (refine WPV.condK ?_; intro A hA B hB) | (refine here ?_; refine sS ?_) | refine Both.mk ?_ ?_ | ((with_reducible refine CallO.gd 69 ?_); refine CallO.frB [0] Tryz.call69 (cd) ?_) | ((with_reducible refine CallO.gd 21 ?_); refine CallO.toB Tryz.call21 (vrput_s (m := (av.size : Int) + 1) (by omega) (by omega) _) ?_) | ((with_reducible refine CallP.gd 69 ?_); refine CallP.frB [0] 0 Tryz.call69 (cd) ?_) | ((with_reducible refine CallP.gd 21 ?_); refine CallP.toB Tryz.call21 (vrput_s (m := (av.size : Int) + 1) (by omega) (by omega) _) ?_) | (refine hN _ ?_; try clear hN N; try clear hy ops) | (refine hA ?_; clear hA A hB B; try simp only [hz]) | (refine hB ?_; clear hA A hB B; try simp only [hz]) | (refine gG ?_ ?_ <;> (intro hz; have h := nm hz; try (exfalso; omega)) <;> (have hz := nz hz; try subst hz)) | (rw [if_pos (show _ ∧ _ from ⟨by omega, by omega⟩)]; refine sS ?_) | refine gT ?_ | (clear hN N))
        have hL := @wrval_t
        all_goals (exact rndZ (Desc.re [some 0, some 1, some 4] rfl) (H'))
      | false =>
        refine loopV ?_
        have hz : True := trivial
        have hy := yieldedV_eq
        have hL := And.intro @hget2 (@hv1)
        repeat' (first | (refine WPV.seqK ?_; intro N hN) | refine gA ?_ | (refine gR (M := noM) ?_; intro N hN ops hy) | (refine gD (M := noM) ?_; intro N hN; have hy := yieldedV_eq) | (refine WPV.condK ?_; intro A hA B hB) | (refine here ?_; refine sS ?_) | refine Both.mk ?_ ?_ | ((with_reducible refine CallO.gd 69 ?_); refine CallO.frB [0] Tryz.call69 (cd) ?_) | ((with_reducible refine CallO.gd 21 ?_); refine CallO.toB Tryz.call21 (vrput_s (m := (av.size : Int) + 1) (by omega) (by omega) _) ?_) | ((with_reducible refine CallP.gd 69 ?_); refine CallP.frB [0] 0 Tryz.call69 (cd) ?_) | ((with_reducible refine CallP.gd 21 ?_); refine CallP.toB Tryz.call21 (vrput_s (m := (av.size : Int) + 1) (by omega) (by omega) _) ?_) | (refine hN _ ?_; try clear hN N; try clear hy ops) | (refine hA ?_; clear hA A hB B; try simp only [hz]) | (refine hB ?_; clear hA A hB B; try simp only [hz]) | (refine gG ?_ ?_ <;> (intro hz; have h := nm hz; try (exfalso; omega)) <;> (have hz := nz hz; try subst hz)) | (rw [if_pos (show _ ∧ _ from ⟨by omega, by omega⟩)]; refine sS ?_) | refine gT ?_ | (clear hN N))
        have hL := And.intro @wrval_f ((@List.append_assoc UInt8))
        all_goals (exact rndZ (Desc.re [some 0, some 1, some 5] rfl) (H'))
    · obtain rfl : k = w.length := by omega
      clear H
      rw [List.drop_length] at j6 j7
      have e4 : hd ++ (wputF rpF d w).1 = b := by rw [j6]; simp [wputF]
      have e5 : (wputF rpF d w).2 = d2 := j7
      rw [e4, e5] at hQ
      refine loopV ?_
      have hz : True := trivial
      have hy := yieldedV_eq
      have hL := True.intro
      repeat' (first | (refine WPV.seqK ?_; intro N hN) | refine gA ?_ | (refine gR (M := noM) ?_; intro N hN ops hy) | (refine gD (M := noM) ?_; intro N hN; have hy := yieldedV_eq) | (refine WPV.condK ?_; intro A hA B hB) | (refine here ?_; refine sS ?_) | refine Both.mk ?_ ?_ | (refine hN _ ?_; try clear hN N; try clear hy ops) | (refine hA ?_; clear hA A hB B; try simp only [hz]) | (refine hB ?_; clear hA A hB B; try simp only [hz]) | (refine gG ?_ ?_ <;> (intro hz; have h := nm hz; try (exfalso; omega)) <;> (have hz := nz hz; try subst hz)) | (rw [if_pos (show _ ∧ _ from ⟨by omega, by omega⟩)]; refine sS ?_) | refine gT ?_ | (clear hN N))
      all_goals (try unfold byV at hQ)
      all_goals (first | exact retZ hQ Tryz.results51 (Desc.re [some 0] rfl) | exact retZN hQ Tryz.results51 (Desc.re [some 0] rfl))
end
end Go.Proofs.YtgfnpcmehnjopaaGreatDoor
