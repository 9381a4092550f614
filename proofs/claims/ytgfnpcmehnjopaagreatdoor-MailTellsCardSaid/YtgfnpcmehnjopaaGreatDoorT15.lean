/- Parts of the proofs, joined: TxnH, TxnE, TxnI, EpoP, EpoG, VsX, CrcV, FrmF, FrmG, MalF, VsUJ, WeqS. -/
import Derived.Test.YtgfnpcmehnjopaaGreatDoorT2
import Derived.Test.YtgfnpcmehnjopaaGreatDoorT9
import Derived.Test.YtgfnpcmehnjopaaGreatDoorT10
import Derived.Test.YtgfnpcmehnjopaaGreatDoorT13
import Derived.Test.YtgfnpcmehnjopaaGreatDoorT14
section
namespace Go.Proofs.YtgfnpcmehnjopaaGreatDoor
open Go Go.RowKit
set_option linter.unusedVariables false
set_option linter.unusedSimpArgs false
structure CRel (x : Cod Di) (y : Cod Rdi) (n : Nat) : Prop where
  c : y.c = x.c
  r : rightF x.c = true
  d : Rel x.d y.d n
theorem wput_rel : ∀ (w : List Wr) {d : Di} {r : Rdi} {n : Nat}, Rel d r n → (wputF rpF r w).1 = (wputF dpF d w).1 ∧ ∃ m, m ≤ n + w.length ∧ Rel (wputF dpF d w).2 (wputF rpF r w).2 m
  | [], d, r, n, h => ⟨rfl, n, by simp, h⟩
  | a :: w, d, r, n, h => by
    obtain ⟨e1, m1, h1, r1⟩ := h.put a.k
    obtain ⟨e2, m2, h2, r2⟩ := wput_rel w r1
    rw [wputF_cons, wputF_cons]
    dsimp only [rpF, dpF]
    refine ⟨by rw [e1, e2], m2, by simp only [List.length_cons]; omega, r2⟩
theorem CRel.put {x : Cod Di} {y : Cod Rdi} {n : Nat} (h : CRel x y n) (t : Tx) : (tputF rpF y t).1 = (tputF dpF x t).1 ∧ ∃ m, m ≤ n + 16 ∧ CRel (tputF dpF x t).2 (tputF rpF y t).2 m := by
  unfold tputF
  by_cases hc : checkF t ≠ 0
  · rw [if_pos hc, if_pos hc]; exact ⟨rfl, n, by omega, h⟩
  · rw [if_neg hc, if_neg hc]
    obtain ⟨_, _, hr, hw, _, _⟩ := check_ok (Decidable.not_not.1 hc)
    obtain ⟨e, m, h1, r1⟩ := wput_rel t.w h.d
    exact ⟨by rw [e, h.c], m, by omega, ⟨rfl, hr, r1⟩⟩
theorem ws_rel {b : List UInt8} : ∀ (N used : Nat) {d : Di} {r : Rdi} {n : Nat} (ws : List Wr), Rel d r n →
    (rwsF b N used r ws).1.2.2 = (wstakeF dtF b N used 0 d).1.2.2 ∧ ((wstakeF dtF b N used 0 d).1.2.2 = 0 → (rwsF b N used r ws).1.1 = ws ++ (wstakeF dtF b N used 0 d).1.1 ∧ (rwsF b N used r ws).1.2.1 = (wstakeF dtF b N used 0 d).1.2.1 ∧ ∃ m, m ≤ n + N ∧ Rel (wstakeF dtF b N used 0 d).2 (rwsF b N used r ws).2 m)
  | 0, used, d, r, n, ws, h => by simp only [rwsF, wstakeF]; exact ⟨trivial, fun _ => ⟨by simp, trivial, n, by omega, h⟩⟩
  | N + 1, used, d, r, n, ws, h => by
    obtain ⟨k, z, er, d', hd, hz⟩ := dtake_nat d (b.drop used)
    obtain ⟨e1, m1, h1, r1⟩ := h.take (b.drop used)
    rw [hd] at e1 r1
    obtain ⟨r', hr⟩ : ∃ r', r.take (b.drop used) = ((k, (z : Int), er), r') := ⟨(r.take (b.drop used)).2, Prod.ext e1 rfl⟩
    rw [hr] at r1
    dsimp only at r1
    obtain ⟨p5, n5, e5, h5⟩ : ∃ p m e, tk (b.drop (used + z)) = (p, m, e) := ⟨_, _, _, rfl⟩
    rw [rwsF_of hr h5]
    by_cases her : er ≠ 0
    · have hn : numG b (used + z) er 257 4 = (0, used + z, er) := by unfold numG; rw [if_pos her]
      have hw := wtakeF_of (q := dtF) hd hn
      rw [if_pos (.inl her)] at hw
      rw [wstakeF_one hw, wstakeF_err her, if_pos her]
      exact ⟨rfl, fun h => absurd h her⟩
    · have her := Decidable.not_not.1 her
      subst her
      have hn : numG b (used + z) 0 257 4 = (p5.toNat, used + z + n5, if e5 = 0 ∧ 257 < p5.toNat then 4 else e5) := by
        unfold numG; rw [if_neg (by simp), h5]
      have hw := wtakeF_of (q := dtF) hd hn
      generalize (if e5 = 0 ∧ 257 < p5.toNat then 4 else e5) = e6 at *
      rw [if_neg (by simp)]
      by_cases he6 : e6 ≠ 0
      · rw [if_pos (.inl he6)] at hw
        rw [wstakeF_one hw, wstakeF_err he6, if_pos he6]
        exact ⟨rfl, fun h => absurd h he6⟩
      · have he6 := Decidable.not_not.1 he6
        subst he6
        rw [if_neg (by simp)]
        by_cases h0 : p5.toNat = 0
        · rw [if_pos (.inr h0)] at hw
          rw [wstakeF_one hw, if_pos h0]
          obtain ⟨i1, i2⟩ := ws_rel N (used + z + n5) (ws ++ [⟨k, ⟨#[]⟩, true⟩]) r1
          refine ⟨i1, fun h => ?_⟩
          obtain ⟨i3, i4, m, i5, i6⟩ := i2 h
          exact ⟨by rw [i3]; simp, i4, m, by omega, i6⟩
        · rw [if_neg (by simp [h0])] at hw
          rw [if_neg h0]
          by_cases hs : b.length < used + z + n5 + (p5.toNat - 1)
          · rw [if_pos hs] at hw
            rw [wstakeF_one hw, wstakeF_err (by decide), if_pos hs]
            exact ⟨rfl, fun h => absurd (show (2 : Int) = 0 from h) (by decide)⟩
          · rw [if_neg hs] at hw
            rw [wstakeF_one hw, if_neg hs]
            obtain ⟨i1, i2⟩ := ws_rel N (used + z + n5 + (p5.toNat - 1)) (ws ++ [⟨k, subT b (used + z + n5) (p5.toNat - 1), false⟩]) r1
            refine ⟨i1, fun h => ?_⟩
            obtain ⟨i3, i4, m, i5, i6⟩ := i2 h
            exact ⟨by rw [i3]; simp, i4, m, by omega, i6⟩
theorem CRel.take {x : Cod Di} {y : Cod Rdi} {n : Nat} (h : CRel x y n) (b : List UInt8) :
    ((rtakeF y b).1.2.2 ≠ 0 → ttakeF dtF x b = ((Tx.zero, 0, (rtakeF y b).1.2.2), x)) ∧ ((rtakeF y b).1.2.2 = 0 → (ttakeF dtF x b).1 = (rtakeF y b).1 ∧ ∃ m, m ≤ n + 16 ∧ CRel (ttakeF dtF x b).2 (rtakeF y b).2 m) := by
  obtain ⟨o, u1, e1, h1⟩ : ∃ o u e, numG b 0 0 4611686018427387903 1 = (o, u, e) := ⟨_, _, _, rfl⟩
  unfold rtakeF ttakeF
  simp only [h1, h.c]
  by_cases he1 : e1 ≠ 0
  · simp only [numG_err he1, he1, if_false, ne_eq, not_false_eq_true, if_true, wstakeF_err he1, Nat.add_zero]
    exact ⟨fun _ => trivial, fun h => absurd h id⟩
  have he1 := Decidable.not_not.1 he1
  subst he1
  obtain ⟨s, u2, e2, h2⟩ : ∃ o u e, numG b u1 0 4611686018427387903 1 = (o, u, e) := ⟨_, _, _, rfl⟩
  simp only [h2, ne_eq, not_true_eq_false, if_false]
  by_cases he2 : e2 ≠ 0
  · simp only [numG_err he2, he2, if_false, ne_eq, not_false_eq_true, if_true, wstakeF_err he2, Nat.add_zero]
    exact ⟨fun _ => trivial, fun h => absurd h id⟩
  have he2 := Decidable.not_not.1 he2
  subst he2
  obtain ⟨c, m, e3, h3⟩ : ∃ c m e, ctakeF x.c (b.drop u2) = (c, m, e) := ⟨_, _, _, rfl⟩
  simp only [h3, ne_eq, not_true_eq_false, if_false, if_true]
  by_cases he3 : e3 ≠ 0
  · simp only [numG_err he3, he3, if_false, ne_eq, not_false_eq_true, if_true, wstakeF_err he3, Nat.add_zero]
    exact ⟨fun _ => trivial, fun h => absurd h id⟩
  have he3 := Decidable.not_not.1 he3
  subst he3
  obtain ⟨many, u4, e4, h4⟩ : ∃ o u e, numG b (u2 + m) 0 16 4 = (o, u, e) := ⟨_, _, _, rfl⟩
  simp only [h4, ne_eq, not_true_eq_false, if_false, if_true]
  by_cases he4 : e4 ≠ 0
  · simp only [he4, if_false, ne_eq, not_false_eq_true, if_true, wstakeF_err he4, Nat.add_zero]
    exact ⟨fun _ => trivial, fun h => absurd h id⟩
  have he4 := Decidable.not_not.1 he4
  subst he4
  have hm16 : many ≤ 16 := by
    unfold numG at h4
    rw [if_neg (by simp)] at h4
    simp only [Prod.mk.injEq] at h4
    obtain ⟨rfl, rfl, h5⟩ := h4
    split at h5
    · exact absurd h5 (by decide)
    · omega
  have hcr : rightF c = true := by
    have := ctake_ok (p := x.c) (s := b.drop u2) (by rw [h3])
    rw [h3] at this; exact this.1
  obtain ⟨i1, i2⟩ := ws_rel (b := b) many u4 [] h.d
  generalize rwsF b many u4 y.d [] = R at *
  generalize wstakeF dtF b many u4 0 x.d = W at *
  obtain ⟨⟨rw_, ru, re⟩, rd⟩ := R
  obtain ⟨⟨ww, wu, we⟩, wd⟩ := W
  dsimp only at i1 i2 ⊢
  subst i1
  simp only [not_true_eq_false, if_false]
  by_cases hre : re = 0
  · subst hre
    obtain ⟨i3, i4, m', i5, i6⟩ := i2 rfl
    subst i3 i4
    simp only [List.nil_append, not_true_eq_false, if_false, if_true]
    refine ⟨fun hh => by rw [if_pos hh], fun hh => ?_⟩
    rw [if_neg (by simpa using hh), hh]
    exact ⟨rfl, m', by omega, ⟨rfl, hcr, i6⟩⟩
  · simp only [hre, not_false_eq_true, if_true, if_false]
    exact ⟨fun _ => trivial, fun h => absurd h id⟩
end Go.Proofs.YtgfnpcmehnjopaaGreatDoor
end
section
namespace Go.Proofs.YtgfnpcmehnjopaaGreatDoor
open Go Go.RowKit
set_option linter.unusedVariables false
set_option linter.unusedSimpArgs false
variable {K : Nat → Obj → Prop}
def Tx.d (t : Tx) : List D := [.sc (.int .i64 t.o), .sc (.int .i64 t.s), .sc (.int .i64 t.c.x), .sc (.int .i64 t.c.y), .sc (.int .i64 t.c.z), .sl 3 (wrl t.w)]
def txs (l : List Tx) : List (List D) := l.map Tx.d
theorem txs_len (l : List Tx) : (txs l).length = l.length := by simp [txs]
theorem txs_get (l : List Tx) (i : Nat) : (txs l)[i]? = (l[i]?).map Tx.d := by simp [txs]
theorem txs_app (l m : List Tx) : txs (l ++ m) = txs l ++ txs m := by simp [txs]
theorem txs_one (a : Tx) : txs [a] = [a.d] := rfl
attribute [go_sem] txs_len txs_get Tx.d
theorem cput_e {x y : Cod Di} {t : Tx} {b : List UInt8} {e : Int} (h : tputF dpF x t = ((b, e), y)) (ok : x.d.Ok) (hl : t.w.length ≤ 9223372036854775807) : Sp Tryz.prog K 65 [.ptr 0 0, txV t] x.inn fun u hh => u = .tup [.sl 1 (bs b), .sc (.int .i64 e)] ∧ hh = y.out := by
  have := cput_x (K := K) x t ok hl
  rwa [h] at this
theorem ctake_e {x y : Cod Di} {t : Tx} {b : List UInt8} {n : Nat} {e : Int} (h : ttakeF dtF x b = ((t, n, e), y)) (ok : x.d.Ok) (hl : b.length ≤ 1000000) : Sp Tryz.prog K 66 [.ptr 0 0, .sl 1 (bs b)] x.inn fun u hh => u = ttV (t, n, e) ∧ hh = y.tout := by
  have := ctake_x (K := K) x b ok hl
  rwa [h] at this
theorem tput_ok {x : Cod Di} (ok : x.d.Ok) (t : Tx) : (tputF dpF x t).2.d.Ok := by
  unfold tputF
  split
  · exact ok
  · exact wput_ok t.w ok
theorem tput_r {x : Cod Di} (hr : rightF x.c = true) (t : Tx) : rightF (tputF dpF x t).2.c = true := by
  unfold tputF
  split
  · exact hr
  · rename_i h; exact (check_ok (Decidable.not_not.1 h)).2.2.1
theorem wput_len : ∀ (w : List Wr) (d : Di), d.Ok → (∀ a ∈ w, a.v.size ≤ 256) → (wputF dpF d w).1.length ≤ 1000 * w.length
  | [], d, _, _ => by simp [wputF]
  | a :: w, d, ok, h => by
    have ih := wput_len w (d.put a.k).2 (ok.put a.k) (fun x hx => h x (by simp [hx]))
    have l1 := put_len ok a.k
    have hv := h a (by simp)
    have l2 : a.val.length ≤ 300 := by
      unfold Wr.val
      split
      · simp
      · have := vput_len (n := a.v.size + 1) (by omega)
        simp only [List.length_append, size_toList]; omega
    rw [wputF_cons]
    dsimp only [dpF]
    simp only [List.length_append, List.length_cons]; omega
theorem ite_err {α : Type} {E e : Int} {x y : α} {t : Tx} {n : Nat} (h : (if E ≠ 0 then ((Tx.zero, 0, E), x) else ((t, n, 0), y)).1.2.2 = e) (he : e ≠ 0) : (if E ≠ 0 then ((Tx.zero, 0, E), x) else ((t, n, 0), y)) = ((Tx.zero, 0, e), x) := by
  by_cases hE : E ≠ 0
  · rw [if_pos hE] at h ⊢
    dsimp only at h
    rw [h]
  · rw [if_neg hE] at h
    exact absurd h.symm he
theorem ttake_err {x : Cod Di} {b : List UInt8} {e : Int} (h : (ttakeF dtF x b).1.2.2 = e) (he : e ≠ 0) : ttakeF dtF x b = ((Tx.zero, 0, e), x) := ite_err h he
theorem r_new : rightF Cod.new.c = true := by decide
theorem ttake_w {x x' : Cod Di} {b : List UInt8} {t : Tx} {n : Nat} {e : Int} (ok : x.d.Ok) (hr : rightF x.c = true) (h : ttakeF dtF x b = ((t, n, e), x')) : t.w.length ≤ 16 := by
  by_cases he : e = 0
  · subst he
    exact (check_ok (put_take_t ok hr h).2.2.2.1).2.2.2.1
  · have := ttake_err (x := x) (b := b) (e := e) (by rw [h]) he
    rw [h] at this
    simp only [Prod.mk.injEq] at this
    rw [this.1.1]; exact Nat.zero_le _
theorem tput_two {x : Cod Di} (ok : x.d.Ok) (hr : rightF x.c = true) (t : Tx) :
    (checkF t ≠ 0 ∧ tputF dpF x t = (([], checkF t), x)) ∨ (checkF t = 0 ∧ ∃ b x', tputF dpF x t = ((b, 0), x') ∧ x'.d.Ok ∧ rightF x'.c = true ∧ b.length ≤ 20000 ∧ ∀ rest, ttakeF dtF x (b ++ rest) = ((t, b.length, 0), x')) := by
  by_cases hc : checkF t = 0
  · refine .inr ⟨hc, (tputF dpF x t).1.1, (tputF dpF x t).2, ?_, tput_ok ok t, tput_r hr t, ?_, fun rest => take_put_t ok hr hc rest⟩
    · have : (tputF dpF x t).1.2 = 0 := by unfold tputF; rw [if_neg (by rw [hc]; simp)]
      exact Prod.ext (Prod.ext rfl this) rfl
    · obtain ⟨_, _, _, hw, ha, _⟩ := check_ok hc
      have e : (tputF dpF x t).1.1 = t.headF x.c ++ (wputF dpF x.d t.w).1 := by unfold tputF; rw [if_neg (by rw [hc]; simp)]
      rw [e]
      have h1 := cputF_len x.c t.c
      have h2 := wput_len t.w x.d ok (fun a h => (ha a h).2.1)
      have l1 := vput_len (n := t.o.toNat) (by omega)
      have l2 := vput_len (n := t.s.toNat) (by omega)
      have l3 := vput_len (n := t.w.length) (by omega)
      unfold Tx.headF
      simp only [List.length_append]; omega
  · refine .inl ⟨hc, ?_⟩
    unfold tputF; rw [if_pos hc]
theorem ttake_two {x : Cod Di} (ok : x.d.Ok) (hr : rightF x.c = true) (b : List UInt8) :
    (∃ e, e ≠ 0 ∧ ttakeF dtF x b = ((Tx.zero, 0, e), x)) ∨ (∃ t n x', ttakeF dtF x b = ((t, n, 0), x') ∧ tputF dpF x t = ((b.take n, 0), x') ∧ 1 ≤ n ∧ n ≤ b.length ∧ checkF t = 0 ∧ x'.d.Ok ∧ rightF x'.c = true ∧ t.w.length ≤ 16) := by
  by_cases he : (ttakeF dtF x b).1.2.2 = 0
  · have h : ttakeF dtF x b = (((ttakeF dtF x b).1.1, (ttakeF dtF x b).1.2.1, 0), (ttakeF dtF x b).2) := Prod.ext (Prod.ext rfl (Prod.ext rfl he)) rfl
    obtain ⟨a1, a2, a3, a4, a5, a6⟩ := put_take_t ok hr h
    exact .inr ⟨_, _, _, h, a1, a2, a3, a4, a5, a6, ttake_w ok hr h⟩
  · exact .inl ⟨_, he, ttake_err rfl he⟩
end Go.Proofs.YtgfnpcmehnjopaaGreatDoor
end
section
namespace Go.Proofs.YtgfnpcmehnjopaaGreatDoor
open Go Go.RowKit
set_option linter.unusedVariables false
set_option linter.unusedSimpArgs false
variable {K : Nat → Obj → Prop}
theorem Rel.rok {d : Di} {r : Rdi} {n : Nat} (h : Rel d r n) (hn : n ≤ 900000) : r.ks.length ≤ 8 ∧ r.ws.length = r.ks.length ∧ (0 ≤ r.now ∧ r.now ≤ 900000) := by
  obtain ⟨a, b, c⟩ := h.len
  have := h.now
  exact ⟨a, b, c, by omega⟩
theorem rput_e {x : Cod Di} {y : Cod Rdi} {n : Nat} (h : CRel x y n) (hn : n ≤ 900000) (t : Tx) (hl : t.w.length ≤ 9223372036854775807) : ∃ (b : List UInt8) (e : Int) (x' : Cod Di) (r' : Rdi) (m : Nat), tputF dpF x t = ((b, e), x') ∧ CRel x' ⟨x'.c, r'⟩ m ∧ m ≤ n + 16 ∧
    Sp Tryz.prog K 51 [.ptr 0 0, txV t] [y.d.ob3 x.c] fun u hh => u = .tup [.sl 1 (bs b), .sc (.int .i64 e)] ∧ hh = [r'.ob3 x'.c] := by
  obtain ⟨h1, m, h2, h3⟩ := h.put t
  obtain ⟨a1, a2, a3⟩ := h.d.rok hn
  have := rput_x (K := K) y t a1 a2 a3 hl
  rw [h1] at this
  have hc := h3.c
  obtain ⟨c', r'⟩ : ∃ q, q = (tputF rpF y t).2 := ⟨_, rfl⟩
  obtain ⟨yc, yd⟩ := y
  have hy := h.c
  dsimp only at hy
  subst hy
  refine ⟨(tputF dpF x t).1.1, (tputF dpF x t).1.2, (tputF dpF x t).2, (tputF rpF ⟨x.c, yd⟩ t).2.d, m, rfl, ?_, h2, ?_⟩
  · rw [← hc]; exact h3
  · rw [← hc]; exact this
theorem rtake_e {x : Cod Di} {y : Cod Rdi} {n : Nat} (h : CRel x y n) (hn : n ≤ 900000) (b : List UInt8) (hl : b.length ≤ 1000000) : ∃ (t : Tx) (k : Nat) (e : Int) (x' : Cod Di) (r' : Rdi) (m : Nat), ttakeF dtF x b = ((t, k, e), x') ∧ t.w.length ≤ 16 ∧ CRel x' ⟨x'.c, r'⟩ m ∧ m ≤ n + 16 ∧
    Sp Tryz.prog K 54 [.ptr 0 0, .sl 1 (bs b)] [y.d.ob3 x.c] fun u hh => u = ttV (t, k, e) ∧ hh = [r'.ob3 x'.c] := by
  obtain ⟨h1, h2⟩ := h.take b
  obtain ⟨a1, a2, a3⟩ := h.d.rok hn
  obtain ⟨yc, yd⟩ := y
  have hy := h.c
  dsimp only at hy
  subst hy
  obtain ⟨t, k, e, y', hh⟩ : ∃ t k e y', rtakeF ⟨x.c, yd⟩ b = ((t, k, e), y') := ⟨_, _, _, _, rfl⟩
  have hs := rTake_x (K := K) ⟨x.c, yd⟩ b hl a1 a2 a3 hh
  rw [hh] at h1 h2
  dsimp only at h1 h2
  by_cases he : e = 0
  · subst he
    obtain ⟨g1, m, g2, g3⟩ := h2 rfl
    simp only [ne_eq, not_true_eq_false, if_false] at hs
    have hx : ttakeF dtF x b = ((t, k, 0), (ttakeF dtF x b).2) := Prod.ext g1 rfl
    have hc := g3.c
    refine ⟨t, k, 0, _, y'.d, m, hx, ttake_w h.d.ok h.r hx, ?_, g2, ?_⟩
    · rw [← hc]; exact g3
    · rw [← hc]; exact hs
  · have hx := h1 he
    simp only [ne_eq, he, not_false_eq_true, if_true] at hs
    exact ⟨_, _, _, _, yd, n, hx, Nat.zero_le _, h, by omega, hs⟩
theorem CRel.nw : CRel Cod.new ⟨⟨0, 0, 0⟩, ⟨[], [], 0⟩⟩ 0 := ⟨rfl, by decide, .nw⟩
end Go.Proofs.YtgfnpcmehnjopaaGreatDoor
end
section
namespace Go.Proofs.YtgfnpcmehnjopaaGreatDoor
open Go Go.RowKit
set_option linter.unusedVariables false
set_option linter.unusedSimpArgs false
variable {K : Nat → Obj → Prop}
def packGo (x : Cod Di) : List Tx → List UInt8 × Int
  | [] => ([], 0)
  | t :: l => if (tputF dpF x t).1.2 ≠ 0 then ([], (tputF dpF x t).1.2) else if (packGo (tputF dpF x t).2 l).2 ≠ 0 then ([], (packGo (tputF dpF x t).2 l).2) else ((tputF dpF x t).1.1 ++ (packGo (tputF dpF x t).2 l).1, 0)
def packF (l : List Tx) : List UInt8 × Int :=
  if 4 < l.length then ([], 4) else if (packGo Cod.new l).2 ≠ 0 then ([], (packGo Cod.new l).2) else (vput l.length ++ (packGo Cod.new l).1, 0)
theorem packGo_err {x y : Cod Di} {t : Tx} {l : List Tx} {b : List UInt8} {e : Int} (h : tputF dpF x t = ((b, e), y)) (he : e ≠ 0) : packGo x (t :: l) = ([], e) := by
  unfold packGo; rw [h]; exact if_pos he
theorem packGo_ok {x y : Cod Di} {t : Tx} {l : List Tx} {b : List UInt8} (h : tputF dpF x t = ((b, 0), y)) : packGo x (t :: l) = if (packGo y l).2 ≠ 0 then ([], (packGo y l).2) else (b ++ (packGo y l).1, 0) := by
  show (if (tputF dpF x t).1.2 ≠ 0 then _ else _) = _
  rw [h]; exact if_neg (by simp)
structure PJ (l : List Tx) (k : Nat) (acc : List UInt8) (x : Cod Di) : Prop where
  hk : k ≤ l.length
  ok : x.d.Ok
  hr : rightF x.c = true
  len : acc.length ≤ 10 + 20000 * k
  eq : packF l = if (packGo x (l.drop k)).2 ≠ 0 then ([], (packGo x (l.drop k)).2) else (acc ++ (packGo x (l.drop k)).1, 0)
set_option maxRecDepth 100000 in
set_option maxHeartbeats 2000000 in
theorem pack_s (l : List Tx) (hw : ∀ t ∈ l, t.w.length ≤ 1000000) : Sp Tryz.prog K 40 [.sl 6 (txs l)] [] fun u hh => u = byV (packF l) ∧ hh = [] := by
  by_cases h4 : 4 < l.length
  · rw [show packF l = ([], 4) from if_pos h4]
    refine Sp.of_bodyE Tryz.func40 rfl ?_
    intro Q hQ
    simp only [List.replicate, List.length_cons, List.length_nil, Tryz.ntmps40, Nat.reduceAdd, Nat.reduceSub, List.cons_append, List.nil_append, go_sem]
    have hz : True := trivial
    have hy := yieldedV_eq
    have hL := True.intro
    repeat' (first | (refine WPV.seqK ?_; intro N hN) | refine gA ?_ | (refine gR (M := noM) ?_; intro N hN ops hy) | (refine gD (M := noM) ?_; intro N hN; have hy := yieldedV_eq) | (refine WPV.condK ?_; intro A hA B hB) | (refine here ?_; refine sS ?_) | refine Both.mk ?_ ?_ | ((with_reducible refine CallO.gd 64 ?_); refine CallO.frB [] Tryz.call64 (cnew_s) ?_) | ((with_reducible refine CallO.gd 45 ?_); refine CallO.frB [] Tryz.call45 (vputO_s (m := (l.length : Int)) (by omega) (by omega)) ?_) | (refine hN _ ?_; try clear hN N; try clear hy ops) | (refine hA ?_; clear hA A hB B; try simp only [hz]) | (refine hB ?_; clear hA A hB B; try simp only [hz]) | (refine gG ?_ ?_ <;> (intro hz; have h := nm hz; try (exfalso; omega)) <;> (have hz := nz hz; try subst hz)) | (rw [if_pos (show _ ∧ _ from ⟨by omega, by omega⟩)]; refine sS ?_) | refine gT ?_ | (clear hN N))
    all_goals (try unfold byV at hQ)
    all_goals (first | exact retZ hQ Tryz.results40 (Desc.re [] rfl) | exact retZN hQ Tryz.results40 (Desc.re [] rfl))
  · have lv := vput_len (n := l.length) (by omega)
    refine Sp.of_bodyE Tryz.func40 rfl ?_
    intro Q hQ
    simp only [List.replicate, List.length_cons, List.length_nil, Tryz.ntmps40, Nat.reduceAdd, Nat.reduceSub, List.cons_append, List.nil_append, go_sem]
    have hz : True := trivial
    have hy := yieldedV_eq
    have hL := True.intro
    repeat' (first | (refine WPV.seqK ?_; intro N hN) | refine gA ?_ | (refine gR (M := noM) ?_; intro N hN ops hy) | (refine gD (M := noM) ?_; intro N hN; have hy := yieldedV_eq) | (refine WPV.condK ?_; intro A hA B hB) | (refine here ?_; refine sS ?_) | refine Both.mk ?_ ?_ | ((with_reducible refine CallO.gd 64 ?_); refine CallO.frB [] Tryz.call64 (cnew_s) ?_) | ((with_reducible refine CallO.gd 45 ?_); refine CallO.frB [] Tryz.call45 (vputO_s (m := (l.length : Int)) (by omega) (by omega)) ?_) | (refine hN _ ?_; try clear hN N; try clear hy ops) | (refine hA ?_; clear hA A hB B; try simp only [hz]) | (refine hB ?_; clear hA A hB B; try simp only [hz]) | (refine gG ?_ ?_ <;> (intro hz; have h := nm hz; try (exfalso; omega)) <;> (have hz := nz hz; try subst hz)) | (rw [if_pos (show _ ∧ _ from ⟨by omega, by omega⟩)]; refine sS ?_) | refine gT ?_ | (clear hN N))
    refine WPV.loopW (α := Nat × List UInt8 × Cod Di) (fun s => l.length - s.1) (fun s => ⟨[.any, .any, .any, .any, .ptr 0 0, .own 1 (bs s.2.1) 4, .any, .any, .any, .any, .any, .any, .any, .any, .any, .any, .any, .any, .sl 6 (txs l), .sc (.int .i64 (l.length : Int)), .sc (.int .i64 ((s.1 : Nat) : Int)), .any, .any, .any, .any, .any, .any, .any, .any, .any, .any, .any, .any, .any, .any, .any, .any, .any], [.cells [.ptr 1 0, .sc (.int .i64 s.2.2.c.x), .sc (.int .i64 s.2.2.c.y), .sc (.int .i64 s.2.2.c.z)], .cells [.hs true 1 2 0 s.2.2.d.ks.length, .mp 3, .sc (.int .i64 (s.2.2.d.e : Int))], .cells (kc s.2.2.d.ks), .map (pm s.2.2.d.c s.2.2.d.l), .tail]⟩) (fun s => PJ l s.1 s.2.1 s.2.2) (0, vput l.length, Cod.new) Desc.weakA ⟨Nat.zero_le _, .nw, r_new, by dsimp only; omega, by unfold packF; rw [if_neg h4]; rfl⟩ (fun s hJ H => ?_)
    obtain ⟨k, acc, x⟩ := s
    obtain ⟨j1, ok, hr, j4, j5⟩ := hJ
    dsimp only at j1 ok hr j4 j5 H ⊢
    by_cases h : k < l.length
    · obtain ⟨t, hg0⟩ : ∃ t, l[k] = t := ⟨_, rfl⟩
      have hget : l[k]? = some t := by rw [← hg0]; exact List.getElem?_eq_getElem h
      have hwt := hw t (hg0 ▸ List.getElem_mem h)
      rw [List.drop_eq_getElem_cons h, hg0] at j5
      rcases tput_two ok hr t with ⟨hc, p1⟩ | ⟨hc, b, x', p1, ok', hr', hbl, p2⟩
      · have cp := cput_e (K := K) p1 ok (by omega)
        rw [packGo_err p1 hc] at j5
        rw [j5] at hQ
        generalize checkF t = q at *
        simp only [if_pos hc] at hQ
        clear H hg0
        obtain ⟨o, s, ⟨c1, c2, c3⟩, w⟩ := t
        dsimp only [txV] at cp
        refine loopV ?_
        have hz : True := trivial
        have hy := yieldedV_eq
        have hL := @hget
        repeat' (first | (refine WPV.seqK ?_; intro N hN) | refine gA ?_ | (refine gR (M := noM) ?_; intro N hN ops hy) | (refine gD (M := noM) ?_; intro N hN; have hy := yieldedV_eq) | (refine WPV.condK ?_; intro A hA B hB) | (refine here ?_; refine sS ?_) | refine Both.mk ?_ ?_ | ((with_reducible refine CallO.gd 65 ?_); refine CallO.frB [0, 1, 2, 3] Tryz.call65 (cp) ?_) | ((with_reducible refine CallP.gd 65 ?_); refine CallP.frB [0, 1, 2, 3] 2 Tryz.call65 (cp) ?_) | (refine hN _ ?_; try clear hN N; try clear hy ops) | (refine hA ?_; clear hA A hB B; try simp only [hz]) | (refine hB ?_; clear hA A hB B; try simp only [hz]) | (refine gG ?_ ?_ <;> (intro hz; have h := nm hz; try (exfalso; omega)) <;> (have hz := nz hz; try subst hz)) | (rw [if_pos (show _ ∧ _ from ⟨by omega, by omega⟩)]; refine sS ?_) | refine gT ?_ | (clear hN N))
        all_goals (try unfold byV at hQ)
        all_goals (first | exact retZ hQ Tryz.results40 (Desc.re [] rfl) | exact retZN hQ Tryz.results40 (Desc.re [] rfl))
      · have cp := cput_e (K := K) p1 ok (by omega)
        rw [packGo_ok p1] at j5
        have H' := H (k + 1, acc ++ b, x') ⟨h, ok', hr', by dsimp only; rw [List.length_append]; omega, by rw [j5]; dsimp only; split <;> simp_all⟩ (by dsimp only; omega)
        clear H hg0 j5
        dsimp only at H'
        obtain ⟨o, s, ⟨c1, c2, c3⟩, w⟩ := t
        dsimp only [txV] at cp
        refine loopV ?_
        have hz : True := trivial
        have hy := yieldedV_eq
        have hL := @hget
        repeat' (first | (refine WPV.seqK ?_; intro N hN) | refine gA ?_ | (refine gR (M := noM) ?_; intro N hN ops hy) | (refine gD (M := noM) ?_; intro N hN; have hy := yieldedV_eq) | (refine WPV.condK ?_; intro A hA B hB) | (refine here ?_; refine sS ?_) | refine Both.mk ?_ ?_ | ((with_reducible refine CallO.gd 65 ?_); refine CallO.frB [0, 1, 2, 3] Tryz.call65 (cp) ?_) | ((with_reducible refine CallP.gd 65 ?_); refine CallP.frB [0, 1, 2, 3] 2 Tryz.call65 (cp) ?_) | (refine hN _ ?_; try clear hN N; try clear hy ops) | (refine hA ?_; clear hA A hB B; try simp only [hz]) | (refine hB ?_; clear hA A hB B; try simp only [hz]) | (refine gG ?_ ?_ <;> (intro hz; have h := nm hz; try (exfalso; omega)) <;> (have hz := nz hz; try subst hz)) | (rw [if_pos (show _ ∧ _ from ⟨by omega, by omega⟩)]; refine sS ?_) | refine gT ?_ | (clear hN N))
        all_goals (exact rndZ (Desc.re [some 0, some 1, some 6, some 7, some 8] rfl) (H'))
    · obtain rfl : k = l.length := by omega
      rw [List.drop_length] at j5
      have e : packF l = (acc, 0) := by rw [j5]; simp [packGo]
      rw [e] at hQ
      clear H j5 e
      refine loopV ?_
      have hz : True := trivial
      have hy := yieldedV_eq
      have hL := True.intro
      repeat' (first | (refine WPV.seqK ?_; intro N hN) | refine gA ?_ | (refine gR (M := noM) ?_; intro N hN ops hy) | (refine gD (M := noM) ?_; intro N hN; have hy := yieldedV_eq) | (refine WPV.condK ?_; intro A hA B hB) | (refine here ?_; refine sS ?_) | refine Both.mk ?_ ?_ | (refine hN _ ?_; try clear hN N; try clear hy ops) | (refine hA ?_; clear hA A hB B; try simp only [hz]) | (refine hB ?_; clear hA A hB B; try simp only [hz]) | (refine gG ?_ ?_ <;> (intro hz; have h := nm hz; try (exfalso; omega)) <;> (have hz := nz hz; try subst hz)) | (rw [if_pos (show _ ∧ _ from ⟨by omega, by omega⟩)]; refine sS ?_) | refine gT ?_ | (clear hN N))
      all_goals (try unfold byV at hQ)
      all_goals (first | exact retZ hQ Tryz.results40 (Desc.re [] rfl) | exact retZN hQ Tryz.results40 (Desc.re [] rfl))
def unGo (b : List UInt8) : Nat → Nat → Cod Di → List Tx → List Tx × Int
  | 0, used, x, acc => if used ≠ b.length then ([], 3) else (acc, 0)
  | n + 1, used, x, acc => if (ttakeF dtF x (b.drop used)).1.2.2 ≠ 0 then ([], (ttakeF dtF x (b.drop used)).1.2.2) else unGo b n (used + (ttakeF dtF x (b.drop used)).1.2.1) (ttakeF dtF x (b.drop used)).2 (acc ++ [(ttakeF dtF x (b.drop used)).1.1])
def unpackF (b : List UInt8) : List Tx × Int :=
  if (tk b).2.2 ≠ 0 then ([], (tk b).2.2) else if 4 < (tk b).1.toNat then ([], 4) else unGo b (tk b).1.toNat (tk b).2.1 Cod.new []
abbrev upV (r : List Tx × Int) : V := .tup [.sl 6 (txs r.1), .sc (.int .i64 r.2)]
theorem unGo_err {b : List UInt8} {n used : Nat} {x y : Cod Di} {acc : List Tx} {t : Tx} {m : Nat} {e : Int} (h : ttakeF dtF x (b.drop used) = ((t, m, e), y)) (he : e ≠ 0) : unGo b (n + 1) used x acc = ([], e) := by
  unfold unGo; rw [h]; exact if_pos he
theorem unGo_ok {b : List UInt8} {n used : Nat} {x y : Cod Di} {acc : List Tx} {t : Tx} {m : Nat} (h : ttakeF dtF x (b.drop used) = ((t, m, 0), y)) : unGo b (n + 1) used x acc = unGo b n (used + m) y (acc ++ [t]) := by
  show (if (ttakeF dtF x (b.drop used)).1.2.2 ≠ 0 then _ else _) = _
  rw [h]; exact if_neg (by simp)
structure UJ (b : List UInt8) (n k used : Nat) (x : Cod Di) (acc : List Tx) : Prop where
  hk : k ≤ n
  hu : used ≤ b.length
  ok : x.d.Ok
  hr : rightF x.c = true
  len : acc.length = k
  eq : unpackF b = unGo b (n - k) used x acc
set_option maxRecDepth 100000 in
set_option maxHeartbeats 2000000 in
theorem unpack_s (b : List UInt8) (hl : b.length ≤ 1000000) : Sp Tryz.prog K 42 [.sl 1 (bs b)] [] fun u hh => u = upV (unpackF b) ∧ hh = [] := by
  obtain ⟨p, u, e, h1⟩ : ∃ p u e, tk b = (p, u, e) := ⟨_, _, _, rfl⟩
  have l1 := tk_le b
  have hu : unpackF b = if e ≠ 0 then ([], e) else if 4 < p.toNat then ([], 4) else unGo b p.toNat u Cod.new [] := by unfold unpackF; rw [h1]
  rw [h1] at l1
  dsimp only at l1
  have hp := UInt64.toNat_lt p
  by_cases hb : e ≠ 0 ∨ 4 < p.toNat
  · rw [hu]
    clear hu
    refine Sp.of_bodyE Tryz.func42 rfl ?_
    intro Q hQ
    simp only [List.replicate, List.length_cons, List.length_nil, Tryz.ntmps42, Nat.reduceAdd, Nat.reduceSub, List.cons_append, List.nil_append, go_sem]
    have hz : True := trivial
    have hy := yieldedV_eq
    have hL := True.intro
    repeat' (first | (refine WPV.seqK ?_; intro N hN) | refine gA ?_ | (refine gR (M := noM) ?_; intro N hN ops hy) | (refine gD (M := noM) ?_; intro N hN; have hy := yieldedV_eq) | (refine WPV.condK ?_; intro A hA B hB) | (refine here ?_; refine sS ?_) | refine Both.mk ?_ ?_ | ((with_reducible refine CallO.gd 64 ?_); refine CallO.frB [] Tryz.call64 (cnew_s) ?_) | ((with_reducible refine CallO.gd 24 ?_); refine CallO.toB Tryz.call24 (vtake_s h1 (by omega) _) ?_) | ((with_reducible refine CallP.gd 24 ?_); refine CallP.toB Tryz.call24 (vtake_s h1 (by omega) _) ?_) | (refine hN _ ?_; try clear hN N; try clear hy ops) | (refine hA ?_; clear hA A hB B; try simp only [hz]) | (refine hB ?_; clear hA A hB B; try simp only [hz]) | (refine gG ?_ ?_ <;> (intro hz; have h := nm hz; try (exfalso; omega)) <;> (have hz := nz hz; try subst hz)) | (rw [if_pos (show _ ∧ _ from ⟨by omega, by omega⟩)]; refine sS ?_) | refine gT ?_ | (clear hN N))
    all_goals (try (first | exact retZ hQ Tryz.results42 (Desc.re [] rfl) | exact retZN hQ Tryz.results42 (Desc.re [] rfl)))
  have hu2 : unpackF b = unGo b p.toNat u Cod.new [] := by rw [hu, if_neg (by omega), if_neg (by omega)]
  clear hu
  refine Sp.of_bodyE Tryz.func42 rfl ?_
  intro Q hQ
  simp only [List.replicate, List.length_cons, List.length_nil, Tryz.ntmps42, Nat.reduceAdd, Nat.reduceSub, List.cons_append, List.nil_append, go_sem]
  have hz : True := trivial
  have hy := yieldedV_eq
  have hL := True.intro
  repeat' (first | (refine WPV.seqK ?_; intro N hN) | refine gA ?_ | (refine gR (M := noM) ?_; intro N hN ops hy) | (refine gD (M := noM) ?_; intro N hN; have hy := yieldedV_eq) | (refine WPV.condK ?_; intro A hA B hB) | (refine here ?_; refine sS ?_) | refine Both.mk ?_ ?_ | ((with_reducible refine CallO.gd 64 ?_); refine CallO.frB [] Tryz.call64 (cnew_s) ?_) | ((with_reducible refine CallO.gd 24 ?_); refine CallO.toB Tryz.call24 (vtake_s h1 (by omega) _) ?_) | ((with_reducible refine CallP.gd 24 ?_); refine CallP.toB Tryz.call24 (vtake_s h1 (by omega) _) ?_) | (refine hN _ ?_; try clear hN N; try clear hy ops) | (refine hA ?_; clear hA A hB B; try simp only [hz]) | (refine hB ?_; clear hA A hB B; try simp only [hz]) | (refine gG ?_ ?_ <;> (intro hz; have h := nm hz; try (exfalso; omega)) <;> (have hz := nz hz; try subst hz)) | (rw [if_pos (show _ ∧ _ from ⟨by omega, by omega⟩)]; refine sS ?_) | refine gT ?_ | (clear hN N))
  refine WPV.loopW (α := Nat × Nat × Cod Di × List Tx) (fun s => p.toNat - s.1) (fun s => ⟨[.sl 1 (bs b), .any, .any, .any, .any, .sc (.int .i64 (s.2.1 : Int)), .any, .ptr 0 0, .own 6 (txs s.2.2.2) 4, .any, .any, .any, .any, .any, .any, .any, .any, .any, .any, .any, .any, .any, .any, .any, .any, .any, .sc (.int .u64 (p.toNat : Int)), .sc (.int .u64 ((s.1 : Nat) : Int)), .any, .any, .any, .any, .any, .any, .any, .any, .any, .any, .any, .any, .any, .any, .any, .any, .any, .any, .any, .any, .any, .any, .any, .any, .any, .any], [.cells [.ptr 1 0, .sc (.int .i64 s.2.2.1.c.x), .sc (.int .i64 s.2.2.1.c.y), .sc (.int .i64 s.2.2.1.c.z)], .cells [.hs true 1 2 0 s.2.2.1.d.ks.length, .mp 3, .sc (.int .i64 (s.2.2.1.d.e : Int))], .cells (kc s.2.2.1.d.ks), .map (pm s.2.2.1.d.c s.2.2.1.d.l), .tail]⟩) (fun s => UJ b p.toNat s.1 s.2.1 s.2.2.1 s.2.2.2) (0, u, Cod.new, []) ((Desc.own0 (es := []) 8 6 rfl (.inr ⟨rfl, rfl⟩)).trans Desc.weakA) ⟨Nat.zero_le _, l1, .nw, r_new, rfl, hu2⟩ (fun s hJ H => ?_)
  obtain ⟨k, used, x, acc⟩ := s
  obtain ⟨j1, j2, ok, hr, j5, j6⟩ := hJ
  dsimp only at j1 j2 ok hr j5 j6 H ⊢
  by_cases h : k < p.toNat
  · rw [show p.toNat - k = (p.toNat - (k + 1)) + 1 by omega] at j6
    rcases ttake_two ok hr (b.drop used) with ⟨e', he, p1⟩ | ⟨t, m, x', p1, p2, n1, n2, hc, ok', hr', hw⟩
    · have cp := ctake_e (K := K) p1 ok (by rw [List.length_drop]; omega)
      rw [unGo_err p1 he] at j6
      rw [j6] at hQ
      clear H
      refine loopV ?_
      have hz : True := trivial
      have hy := yieldedV_eq
      have hL := True.intro
      repeat' (first | (refine WPV.seqK ?_; intro N hN) | refine gA ?_ | (refine gR (M := noM) ?_; intro N hN ops hy) | (refine gD (M := noM) ?_; intro N hN; have hy := yieldedV_eq) | (refine WPV.condK ?_; intro A hA B hB) | (refine here ?_; refine sS ?_) | refine Both.mk ?_ ?_ | ((with_reducible refine CallO.gd 66 ?_); refine CallO.frB [0, 1, 2, 3] Tryz.call66 (cp) ?_) | ((with_reducible refine CallP.gd 66 ?_); refine CallP.frB [0, 1, 2, 3] 3 Tryz.call66 (cp) ?_) | (refine hN _ ?_; try clear hN N; try clear hy ops) | (refine hA ?_; clear hA A hB B; try simp only [hz]) | (refine hB ?_; clear hA A hB B; try simp only [hz]) | (refine gG ?_ ?_ <;> (intro hz; have h := nm hz; try (exfalso; omega)) <;> (have hz := nz hz; try subst hz)) | (rw [if_pos (show _ ∧ _ from ⟨by omega, by omega⟩)]; refine sS ?_) | refine gT ?_ | (clear hN N))
      all_goals (first | exact retZ hQ Tryz.results42 (Desc.re [] rfl) | exact retZN hQ Tryz.results42 (Desc.re [] rfl))
    · have cp := ctake_e (K := K) p1 ok (by rw [List.length_drop]; omega)
      rw [unGo_ok p1] at j6
      rw [List.length_drop] at n2
      have H' := H (k + 1, used + m, x', acc ++ [t]) ⟨h, by dsimp only; omega, ok', hr', by simp [j5], j6⟩ (by dsimp only; omega)
      clear H j6
      dsimp only at H'
      obtain ⟨o, s, ⟨c1, c2, c3⟩, w⟩ := t
      try dsimp only [ttV, txV] at cp
      refine loopV ?_
      have hz : True := trivial
      have hy := yieldedV_eq
      have hL := True.intro
      repeat' (first | (refine WPV.seqK ?_; intro N hN) | refine gA ?_ | (refine gR (M := noM) ?_; intro N hN ops hy) | (refine gD (M := noM) ?_; intro N hN; have hy := yieldedV_eq) | (refine WPV.condK ?_; intro A hA B hB) | (refine here ?_; refine sS ?_) | refine Both.mk ?_ ?_ | ((with_reducible refine CallO.gd 66 ?_); refine CallO.frB [0, 1, 2, 3] Tryz.call66 (cp) ?_) | ((with_reducible refine CallP.gd 66 ?_); refine CallP.frB [0, 1, 2, 3] 3 Tryz.call66 (cp) ?_) | (refine hN _ ?_; try clear hN N; try clear hy ops) | (refine hA ?_; clear hA A hB B; try simp only [hz]) | (refine hB ?_; clear hA A hB B; try simp only [hz]) | (refine gG ?_ ?_ <;> (intro hz; have h := nm hz; try (exfalso; omega)) <;> (have hz := nz hz; try subst hz)) | (rw [if_pos (show _ ∧ _ from ⟨by omega, by omega⟩)]; refine sS ?_) | refine gT ?_ | (clear hN N))
      have hL := And.intro @txs_app (@txs_one)
      all_goals (exact rndZ (Desc.re [some 0, some 5, some 6, some 7, some 9] rfl) (H'))
  · obtain hkn : k = p.toNat := by omega
    rw [hkn, Nat.sub_self] at j6
    have e2 : unpackF b = if used ≠ b.length then ([], 3) else (acc, 0) := j6
    rw [e2] at hQ
    clear H j6 e2
    refine loopV ?_
    have hz : True := trivial
    have hy := yieldedV_eq
    have hL := True.intro
    repeat' (first | (refine WPV.seqK ?_; intro N hN) | refine gA ?_ | (refine gR (M := noM) ?_; intro N hN ops hy) | (refine gD (M := noM) ?_; intro N hN; have hy := yieldedV_eq) | (refine WPV.condK ?_; intro A hA B hB) | (refine here ?_; refine sS ?_) | refine Both.mk ?_ ?_ | (refine hN _ ?_; try clear hN N; try clear hy ops) | (refine hA ?_; clear hA A hB B; try simp only [hz]) | (refine hB ?_; clear hA A hB B; try simp only [hz]) | (refine gG ?_ ?_ <;> (intro hz; have h := nm hz; try (exfalso; omega)) <;> (have hz := nz hz; try subst hz)) | (rw [if_pos (show _ ∧ _ from ⟨by omega, by omega⟩)]; refine sS ?_) | refine gT ?_ | (clear hN N))
    all_goals (first | exact retZ hQ Tryz.results42 (Desc.re [] rfl) | exact retZN hQ Tryz.results42 (Desc.re [] rfl))
def rowOk (a b : Tx) : Bool := if b.o = a.o ∧ a.s < b.s ∧ b.s - 1 = a.s then true else false
def rowF : List Tx → Bool
  | a :: b :: l => rowOk a b && rowF (b :: l)
  | _ => true
set_option maxRecDepth 100000 in
set_option maxHeartbeats 2000000 in
theorem row_s (l : List Tx) (hl : l.length ≤ 1000000) (hw : ∀ t ∈ l, -9223372036854775808 ≤ t.s ∧ t.s < 9223372036854775808) : Sp Tryz.prog K 63 [.sl 6 (txs l)] [] fun u hh => u = .sc (.bool (rowF l)) ∧ hh = [] := by
  refine Sp.of_bodyE Tryz.func63 rfl ?_
  intro Q hQ
  simp only [List.replicate, List.length_cons, List.length_nil, Tryz.ntmps63, Nat.reduceAdd, Nat.reduceSub, List.cons_append, List.nil_append, go_sem]
  have hz : True := trivial
  have hy := yieldedV_eq
  have hL := True.intro
  repeat' (first | (refine WPV.seqK ?_; intro N hN) | refine gA ?_ | (refine gR (M := noM) ?_; intro N hN ops hy) | (refine gD (M := noM) ?_; intro N hN; have hy := yieldedV_eq) | (refine WPV.condK ?_; intro A hA B hB) | (refine here ?_; refine sS ?_) | refine Both.mk ?_ ?_ | (refine hN _ ?_; try clear hN N; try clear hy ops) | (refine hA ?_; clear hA A hB B; try simp only [hz]) | (refine hB ?_; clear hA A hB B; try simp only [hz]) | (refine gG ?_ ?_ <;> (intro hz; have h := nm hz; try (exfalso; omega)) <;> (have hz := nz hz; try subst hz)) | (rw [if_pos (show _ ∧ _ from ⟨by omega, by omega⟩)]; refine sS ?_) | refine gT ?_ | (clear hN N))
  refine WPV.loopW (α := Nat) (fun k => l.length - k) (fun k => ⟨[.sl 6 (txs l), .any, .any, .sc (.int .i64 ((k : Nat) : Int)), .any, .any, .any, .any, .any, .any, .any, .any, .any, .any, .any, .any, .any, .any, .any, .any, .any, .any, .any, .any, .any, .any, .any, .any, .any, .any, .any, .any, .any, .any, .any, .any, .any, .any, .any, .any, .any, .any, .any, .any, .any, .any, .any, .any, .any, .any, .any], []⟩) (fun k => 1 ≤ k ∧ rowF l = rowF (l.drop (k - 1))) 1 Desc.weakA ⟨Nat.le_refl _, rfl⟩ (fun k hJ H => ?_)
  obtain ⟨hk1, hJ⟩ := hJ
  by_cases h : k < l.length
  · obtain ⟨a, hg0⟩ : ∃ t, l[k - 1] = t := ⟨_, rfl⟩
    have hget : l[k - 1]? = some a := by rw [← hg0]; exact List.getElem?_eq_getElem (by omega)
    obtain ⟨b, hg1⟩ : ∃ t, l[k] = t := ⟨_, rfl⟩
    have hget1 : l[k]? = some b := by rw [← hg1]; exact List.getElem?_eq_getElem h
    have ha := hw a (hg0 ▸ List.getElem_mem (by omega))
    have hb := hw b (hg1 ▸ List.getElem_mem h)
    have hd : l.drop (k - 1) = a :: b :: l.drop (k + 1) := by
      rw [List.drop_eq_getElem_cons (by omega), hg0, show k - 1 + 1 = k by omega, List.drop_eq_getElem_cons h, hg1]
    have hd2 : l.drop k = b :: l.drop (k + 1) := by rw [List.drop_eq_getElem_cons h, hg1]
    rw [hd] at hJ
    have hk2 : ((k : Int) - 1).toNat = k - 1 := by omega
    have hJ2 : rowF l = (rowOk a b && rowF (b :: l.drop (k + 1))) := hJ
    by_cases hr : b.o = a.o ∧ a.s < b.s ∧ b.s - 1 = a.s
    · have e : rowOk a b = true := if_pos hr
      rw [e, Bool.true_and, ← hd2] at hJ2
      have H' := H (k + 1) ⟨by omega, by rw [hJ2, Nat.add_sub_cancel]⟩ (by omega)
      clear H hJ hJ2 hg0 hg1 hd hd2 e
      refine loopV ?_
      have hz : True := trivial
      have hy := yieldedV_eq
      have hL := And.intro @hget (And.intro @hget1 (@hk2))
      repeat' (first | (refine WPV.seqK ?_; intro N hN) | refine gA ?_ | (refine gR (M := noM) ?_; intro N hN ops hy) | (refine gD (M := noM) ?_; intro N hN; have hy := yieldedV_eq) | (refine WPV.condK ?_; intro A hA B hB) | (refine here ?_; refine sS ?_) | refine Both.mk ?_ ?_ | (refine hN _ ?_; try clear hN N; try clear hy ops) | (refine hA ?_; clear hA A hB B; try simp only [hz]) | (refine hB ?_; clear hA A hB B; try simp only [hz]) | (refine gG ?_ ?_ <;> (intro hz; have h := nm hz; try (exfalso; omega)) <;> (have hz := nz hz; try subst hz)) | (rw [if_pos (show _ ∧ _ from ⟨by omega, by omega⟩)]; refine sS ?_) | refine gT ?_ | (clear hN N))
      all_goals (exact rndZ (Desc.re [] rfl) (H'))
    · have e : rowOk a b = false := if_neg hr
      rw [e, Bool.false_and] at hJ2
      rw [hJ2] at hQ
      clear H hJ hJ2 hg0 hg1 hd hd2 e
      refine loopV ?_
      have hz : True := trivial
      have hy := yieldedV_eq
      have hL := And.intro @hget (And.intro @hget1 (@hk2))
      repeat' (first | (refine WPV.seqK ?_; intro N hN) | refine gA ?_ | (refine gR (M := noM) ?_; intro N hN ops hy) | (refine gD (M := noM) ?_; intro N hN; have hy := yieldedV_eq) | (refine WPV.condK ?_; intro A hA B hB) | (refine here ?_; refine sS ?_) | refine Both.mk ?_ ?_ | (refine hN _ ?_; try clear hN N; try clear hy ops) | (refine hA ?_; clear hA A hB B; try simp only [hz]) | (refine hB ?_; clear hA A hB B; try simp only [hz]) | (refine gG ?_ ?_ <;> (intro hz; have h := nm hz; try (exfalso; omega)) <;> (have hz := nz hz; try subst hz)) | (rw [if_pos (show _ ∧ _ from ⟨by omega, by omega⟩)]; refine sS ?_) | refine gT ?_ | (clear hN N))
      all_goals (first | exact retZ hQ Tryz.results63 (Desc.re [] rfl) | exact retZN hQ Tryz.results63 (Desc.re [] rfl))
  · have e : rowF l = true := by
      rw [hJ]
      have : (l.drop (k - 1)).length ≤ 1 := by rw [List.length_drop]; omega
      match l.drop (k - 1), this with
      | [], _ => rfl
      | [a], _ => rfl
    rw [e] at hQ
    clear H hJ e
    refine loopV ?_
    have hz : True := trivial
    have hy := yieldedV_eq
    have hL := True.intro
    repeat' (first | (refine WPV.seqK ?_; intro N hN) | refine gA ?_ | (refine gR (M := noM) ?_; intro N hN ops hy) | (refine gD (M := noM) ?_; intro N hN; have hy := yieldedV_eq) | (refine WPV.condK ?_; intro A hA B hB) | (refine here ?_; refine sS ?_) | refine Both.mk ?_ ?_ | (refine hN _ ?_; try clear hN N; try clear hy ops) | (refine hA ?_; clear hA A hB B; try simp only [hz]) | (refine hB ?_; clear hA A hB B; try simp only [hz]) | (refine gG ?_ ?_ <;> (intro hz; have h := nm hz; try (exfalso; omega)) <;> (have hz := nz hz; try subst hz)) | (rw [if_pos (show _ ∧ _ from ⟨by omega, by omega⟩)]; refine sS ?_) | refine gT ?_ | (clear hN N))
    all_goals (first | exact retZ hQ Tryz.results63 (Desc.re [] rfl) | exact retZN hQ Tryz.results63 (Desc.re [] rfl))
end Go.Proofs.YtgfnpcmehnjopaaGreatDoor
end
section
namespace Go.Proofs.YtgfnpcmehnjopaaGreatDoor
open Go Go.RowKit
set_option linter.unusedVariables false
set_option linter.unusedSimpArgs false
theorem tput_cases {x : Cod Di} (t : Tx) : (checkF t ≠ 0 ∧ tputF dpF x t = (([], checkF t), x)) ∨ (checkF t = 0 ∧ tputF dpF x t = (((tputF dpF x t).1.1, 0), (tputF dpF x t).2)) := by
  by_cases hc : checkF t = 0
  · refine .inr ⟨hc, ?_⟩
    have : (tputF dpF x t).1.2 = 0 := by unfold tputF; rw [if_neg (by rw [hc]; simp)]
    exact Prod.ext (Prod.ext rfl this) rfl
  · refine .inl ⟨hc, ?_⟩
    unfold tputF; rw [if_pos hc]
theorem packGo_all : ∀ (l : List Tx) (x : Cod Di), (packGo x l).2 = 0 → ∀ t ∈ l, checkF t = 0
  | [], _, _, t, ht => by cases ht
  | u :: l, x, h, t, ht => by
    rcases tput_cases (x := x) u with ⟨hc, p⟩ | ⟨hc, p⟩
    · rw [packGo_err p hc] at h; exact absurd h hc
    · rw [packGo_ok p] at h
      by_cases h2 : (packGo (tputF dpF x u).2 l).2 ≠ 0
      · rw [if_pos h2] at h; exact absurd h h2
      · rcases List.mem_cons.1 ht with rfl | ht
        · exact hc
        · exact packGo_all l _ (Decidable.not_not.1 h2) t ht
theorem unGo_pack : ∀ (l : List Tx) {x : Cod Di} {q pre : List UInt8} (acc : List Tx), x.d.Ok → rightF x.c = true → packGo x l = (q, 0) → unGo (pre ++ q) l.length pre.length x acc = (acc ++ l, 0)
  | [], x, q, pre, acc, ok, hr, h => by
    have : q = [] := by unfold packGo at h; simpa using h.symm
    subst this
    simp [unGo]
  | t :: l, x, q, pre, acc, ok, hr, h => by
    rcases tput_cases (x := x) t with ⟨hc, p⟩ | ⟨hc, p⟩
    · rw [packGo_err p hc] at h; simp only [Prod.mk.injEq] at h; exact absurd h.2 hc
    · rw [packGo_ok p] at h
      by_cases h2 : (packGo (tputF dpF x t).2 l).2 ≠ 0
      · rw [if_pos h2] at h; simp only [Prod.mk.injEq] at h; exact absurd h.2 h2
      · rw [if_neg h2] at h
        simp only [Prod.mk.injEq, and_true] at h
        have hd : (pre ++ q).drop pre.length = (tputF dpF x t).1.1 ++ (packGo (tputF dpF x t).2 l).1 := by rw [List.drop_left, h]
        have ht := take_put_t ok hr hc (packGo (tputF dpF x t).2 l).1
        rw [← hd] at ht
        rw [List.length_cons, unGo_ok ht]
        have ih := unGo_pack l (x := (tputF dpF x t).2) (q := (packGo (tputF dpF x t).2 l).1) (pre := pre ++ (tputF dpF x t).1.1) (acc ++ [t]) (tput_ok ok t) (tput_r hr t) (Prod.ext rfl (Decidable.not_not.1 h2))
        rw [List.length_append, List.append_assoc, h] at ih
        rw [ih]; simp
theorem unpack_pack {l : List Tx} (h : (packF l).2 = 0) : unpackF (packF l).1 = (l, 0) := by
  unfold packF at h ⊢
  by_cases h4 : 4 < l.length
  · rw [if_pos h4] at h; exact absurd h (by decide)
  rw [if_neg h4] at h ⊢
  by_cases h2 : (packGo Cod.new l).2 ≠ 0
  · rw [if_pos h2] at h; exact absurd h h2
  rw [if_neg h2]
  have ht := tk_nat l.length (by omega) (packGo Cod.new l).1
  have e : (UInt64.ofNat l.length).toNat = l.length := by rw [UInt64.toNat_ofNat']; omega
  unfold unpackF
  dsimp only
  rw [ht]
  dsimp only
  rw [if_neg (by simp), e, if_neg h4]
  have := unGo_pack l (x := Cod.new) (pre := vput l.length) [] .nw r_new (Prod.ext rfl (Decidable.not_not.1 h2))
  simpa using this
theorem pack_unGo {b : List UInt8} : ∀ (n : Nat) {used : Nat} {x : Cod Di} {acc r : List Tx}, x.d.Ok → rightF x.c = true → used ≤ b.length → unGo b n used x acc = (r, 0) → ∃ l, r = acc ++ l ∧ l.length = n ∧ packGo x l = (b.drop used, 0)
  | 0, used, x, acc, r, ok, hr, hu, h => by
    unfold unGo at h
    by_cases h1 : used ≠ b.length
    · rw [if_pos h1] at h; simp at h
    · rw [if_neg h1] at h
      simp only [Prod.mk.injEq, and_true] at h
      exact ⟨[], by simp [h], rfl, by rw [Decidable.not_not.1 h1, List.drop_length]; rfl⟩
  | n + 1, used, x, acc, r, ok, hr, hu, h => by
    rcases ttake_two ok hr (b.drop used) with ⟨e', he, p1⟩ | ⟨t, m, x', p1, p2, n1, n2, hc, ok', hr', hw⟩
    · rw [unGo_err p1 he] at h; simp only [Prod.mk.injEq] at h; exact absurd h.2 he
    · rw [unGo_ok p1] at h
      rw [List.length_drop] at n2
      obtain ⟨l, e1, e2, e3⟩ := pack_unGo n ok' hr' (by omega) h
      refine ⟨t :: l, by rw [e1]; simp, by simp [e2], ?_⟩
      rw [packGo_ok p2, e3, if_neg (by simp)]
      simp only [Prod.mk.injEq, and_true]
      rw [← List.drop_drop, List.take_append_drop]
theorem pack_unpack {b : List UInt8} {l : List Tx} (h : unpackF b = (l, 0)) : packF l = (b, 0) ∧ l.length ≤ 4 ∧ ∀ t ∈ l, checkF t = 0 := by
  unfold unpackF at h
  by_cases h1 : (tk b).2.2 ≠ 0
  · rw [if_pos h1] at h; simp only [Prod.mk.injEq] at h; exact absurd h.2 h1
  rw [if_neg h1] at h
  by_cases h4 : 4 < (tk b).1.toNat
  · rw [if_pos h4] at h; simp at h
  rw [if_neg h4] at h
  obtain ⟨k1, k2, k3⟩ := tk_ok (Decidable.not_not.1 h1)
  obtain ⟨l', e1, e2, e3⟩ := pack_unGo _ .nw r_new k2 h
  have e1 : l = l' := by simpa using e1
  subst e1
  refine ⟨?_, by omega, packGo_all l Cod.new (by rw [e3])⟩
  unfold packF
  rw [if_neg (by omega), e3, if_neg (by simp), e2, k3]
  simp only [List.take_append_drop]
end Go.Proofs.YtgfnpcmehnjopaaGreatDoor
end
section
namespace Go.Proofs.YtgfnpcmehnjopaaGreatDoor
open Go Go.RowKit
set_option linter.unusedVariables false
set_option linter.unusedSimpArgs false
variable {F : Fr} {P : Program} {M : Oper → TypeId → Bool} {K : Nat → Obj → Prop} {n0 : Nat}
abbrev Runner := FuncId → List V → List Ho → Option (V × List Ho)
def Right (P : Program) (K : Nat → Obj → Prop) (call : Runner) : Prop :=
  ∀ f vs h v h', call f vs h = some (v, h') → Enters P f ∧ Sp P K f vs h fun u hh => u = v ∧ hh = h'
def xRes (call : Runner) (st : Sv) (dst : Option Tmp) : Res → Option Sv
  | .val v h' => some ⟨putV st.tm dst v, trimY h'⟩
  | .call f vs => match call f vs st.h with
    | some (v, h') => some ⟨putV st.tm dst v, h'⟩
    | none => none
  | .no => none
def xOps (P : Program) (M : Oper → TypeId → Bool) (call : Runner) (ops : Array Oper) : List Oper → Sv → Option Sv
  | [], st => some st
  | o :: l, st => match wantedV ops st.tm o with
    | some true => match xRes call st o.dst (opV P (M o) st.tm (st.h ++ [.yet]) st.h.length o) with
      | some st' => xOps P M call ops l st'
      | none => none
    | some false => xOps P M call ops l ⟨putV st.tm o.dst .undef, st.h⟩
    | none => none
mutual
def refsV (p : Nat → Bool) : V → Bool
  | .d _ => true
  | .agg cs => refsL p cs
  | .tup cs => refsL p cs
  | .own _ _ t => p t
  | .full _ _ => true
  | .ptr o _ => p o
  | .ep _ _ => true
  | .hs _ _ o _ _ => p o
  | .mp o => p o
  | .fn _ cs => refsL p cs
  | .fnb _ cs => refsL p cs
  | .any => true
  | .ub => true
def refsL (p : Nat → Bool) : List V → Bool
  | [] => true
  | v :: vs => refsV p v && refsL p vs
end
def refsO (p : Nat → Bool) : Ho → Bool
  | .cells cs => refsL p cs
  | .map m => m.es.all fun e => refsV p e.val
  | _ => true
mutual
theorem renV_back {g k : Nat → Nat} {p : Nat → Bool} (h : ∀ i, p i = true → g (k i) = i) : ∀ v : V, refsV p v = true → renV g (renV k v) = v
  | .d x, _ => rfl
  | .agg cs, hp => by simp only [refsV] at hp; simp only [renV]; rw [renL_back h cs hp]
  | .tup cs, hp => by simp only [refsV] at hp; simp only [renV]; rw [renL_back h cs hp]
  | .own _ _ t, hp => by simp only [refsV] at hp; simp only [renV]; rw [h t hp]
  | .full _ _, _ => rfl
  | .ptr o _, hp => by simp only [refsV] at hp; simp only [renV]; rw [h o hp]
  | .ep _ _, _ => rfl
  | .hs _ _ o _ _, hp => by simp only [refsV] at hp; simp only [renV]; rw [h o hp]
  | .mp o, hp => by simp only [refsV] at hp; simp only [renV]; rw [h o hp]
  | .fn _ cs, hp => by simp only [refsV] at hp; simp only [renV]; rw [renL_back h cs hp]
  | .fnb _ cs, hp => by simp only [refsV] at hp; simp only [renV]; rw [renL_back h cs hp]
  | .any, _ => rfl
  | .ub, _ => rfl
theorem renL_back {g k : Nat → Nat} {p : Nat → Bool} (h : ∀ i, p i = true → g (k i) = i) : ∀ l : List V, refsL p l = true → renL g (renL k l) = l
  | [], _ => rfl
  | v :: vs, hp => by
    simp only [refsL, Bool.and_eq_true] at hp
    simp only [renL]
    rw [renV_back h v hp.1, renL_back h vs hp.2]
end
mutual
def nosV : V → List Nat
  | .agg cs => nosL cs
  | .tup cs => nosL cs
  | .own _ _ t => [t]
  | .ptr o _ => [o]
  | .hs _ _ o _ _ => [o]
  | .mp o => [o]
  | .fn _ cs => nosL cs
  | .fnb _ cs => nosL cs
  | _ => []
def nosL : List V → List Nat
  | [] => []
  | v :: vs => nosV v ++ nosL vs
end
def nosO : Ho → List Nat
  | .cells cs => nosL cs
  | .map m => nosL (m.es.map (·.val))
  | _ => []
def reach (h : List Ho) : Nat → List Nat → List Nat → List Nat
  | 0, _, acc => acc
  | k + 1, [], acc => acc
  | k + 1, i :: l, acc => if acc.contains i then reach h k l acc else match h[i]? with
    | some o => reach h k (nosO o ++ l) (acc ++ [i])
    | none => reach h k l acc
def idxOf (ρ : List Nat) (i : Nat) : Nat := ρ.idxOf i
def handed (ρ : List Nat) (vs : List V) (h : List Ho) : Option (List V × List Ho) :=
  match pickH h ρ with
  | some os => if decide ρ.Nodup && (refsL ρ.contains vs && os.all (refsO ρ.contains)) then some (renL ρ.idxOf vs, os.map (renO ρ.idxOf)) else none
  | none => none
def xDraw (P : Program) (M : Oper → TypeId → Bool) (call : Runner) (ops : Array Oper) : List Oper → List V → List Ho → List (List Nat × List Nat) → Option Sv
  | [], tm, h, ids => match okOrd ops ids.reverse with
    | true => some ⟨tm, h⟩
    | false => none
  | o :: l, tm, h, ids => match wantedV ops tm o with
    | none => none
    | some false => xDraw P M call ops l (putV tm o.dst .undef) h (([], []) :: ids)
    | some true => match opL P (M o) tm o with
      | .pure v => xDraw P M call ops l (putV tm o.dst v) h (([], []) :: ids)
      | .read i k => match (h[i]?).bind k with
        | some v => xDraw P M call ops l (putV tm o.dst v) h (([i], []) :: ids)
        | none => none
      | .write i k => match (h[i]?).bind k with
        | some (v, ob) => xDraw P M call ops l (putV tm o.dst v) (h.set i ob) (([i], [i]) :: ids)
        | none => none
      | .new v ob => xDraw P M call ops l (putV tm o.dst (v h.length)) (h ++ [ob]) (([h.length], [h.length]) :: ids)
      | .app t v => match h[t]? with
        | some .tail => xDraw P M call ops l (putV tm o.dst (v h.length)) (((h ++ [Ho.yet]).set t .dead).set h.length .tail) (([t, h.length], [t, h.length]) :: ids)
        | _ => none
      | .call f vs => match handed (reach h 1000 (nosL vs) []) vs h with
        | some (vs', hl) => match call f vs' hl with
          | some (v, hl') =>
            if (reach h 1000 (nosL vs) []).length ≤ hl'.length ∧ decide (reach h 1000 (nosL vs) [] ++ frs h.length (hl'.length - (reach h 1000 (nosL vs) []).length)).Nodup = true then
              xDraw P M call ops l (putV tm o.dst (renV (gB (reach h 1000 (nosL vs) [] ++ frs h.length (hl'.length - (reach h 1000 (nosL vs) []).length)) 0) v))
                (wrs (padY h (hl'.length - (reach h 1000 (nosL vs) []).length)) ((reach h 1000 (nosL vs) [] ++ frs h.length (hl'.length - (reach h 1000 (nosL vs) []).length)).zip (hl'.map (renO (gB (reach h 1000 (nosL vs) [] ++ frs h.length (hl'.length - (reach h 1000 (nosL vs) []).length)) 0)))))
                ((reach h 1000 (nosL vs) [] ++ frs h.length (hl'.length - (reach h 1000 (nosL vs) []).length), ((reach h 1000 (nosL vs) [] ++ frs h.length (hl'.length - (reach h 1000 (nosL vs) []).length)).zip (hl'.map (renO (gB (reach h 1000 (nosL vs) [] ++ frs h.length (hl'.length - (reach h 1000 (nosL vs) []).length)) 0)))).map (·.1)) :: ids)
            else none
          | none => none
        | none => none
      | .no => none
def cvM (M : Oper → TypeId → Bool) (ops : Array Oper) : Oper → TypeId → Bool := fun o t => M o t || match o.op, o.dst with
  | .buildSlice _ _ _, some d => ops.any fun o' => match o'.op with
    | .convert s s' (.tmp d') => s == t && s' == t && d' == d
    | _ => false
  | _, _ => false
def xCode (P : Program) (M : Oper → TypeId → Bool) (call : Runner) : Nat → Code → Sv → Option (Exit × Sv)
  | 0, _, _ => none
  | n + 1, .skip, st => some (.normal, st)
  | n + 1, .label _, st => some (.normal, st)
  | n + 1, .exit id, st => some (.exit id, st)
  | n + 1, .ret, st => some (.ret, st)
  | n + 1, .scope x, st => xCode P M call n x st
  | n + 1, .block id x, st => match xCode P M call n x st with
    | some (.exit id', st') => if id' = id then some (.normal, st') else some (.exit id', st')
    | r => r
  | n + 1, .seq x y, st => match xCode P M call n x st with
    | some (.normal, st') => xCode P M call n y st'
    | r => r
  | n + 1, .cond c x y, st => match evV st.tm c with
    | some (.d (.sc (.bool true))) => xCode P M call n x st
    | some (.d (.sc (.bool false))) => xCode P M call n y st
    | _ => none
  | n + 1, .loop x, st => match xCode P M call n x st with
    | some (.normal, st') => xCode P M call n (.loop x) st'
    | r => r
  | n + 1, .region _ ops false, st => match xOps P (cvM M ops) call ops ops.toList st with
    | some st' => some (.normal, st')
    | none => none
  | n + 1, .region _ ops true, st => match okR ops, P.follows .mixedOrders, xDraw P (cvM M ops) call ops ops.toList st.tm st.h [] with
    | true, true, some st' => some (.normal, st')
    | _, _, _ => none
  | _, _, _ => none
def noX : Runner := fun _ _ _ => none
def xFun (P : Program) (M : Oper → TypeId → Bool) (X : Runner) : Nat → Runner
  | 0, _, _, _ => none
  | n + 1, f, vs, h => match X f vs h with
    | some r => some r
    | none => match P.funcs[f]? with
    | some fn => match fn.body with
      | some c => match xCode P M (xFun P M X n) 100000 c ⟨vs ++ List.replicate (fn.ntmps - vs.length) .undef, h⟩ with
        | some (.normal, st) => match resultV P st fn.results.toList with
          | some v => some (v, st.h)
          | none => none
        | some (.ret, st) => match resultV P st fn.results.toList with
          | some v => some (v, st.h)
          | none => none
        | _ => none
      | none => none
    | none => none
def xTrue (P : Program) (M : Oper → TypeId → Bool) (X : Runner) (n : Nat) (f : FuncId) : Bool := match xFun P M X n f [] [] with
  | some (.d (.sc (.bool true)), _) => true
  | _ => false
end Go.Proofs.YtgfnpcmehnjopaaGreatDoor
end
section
namespace Go.Proofs.YtgfnpcmehnjopaaGreatDoor
open Go Go.RowKit
set_option linter.unusedVariables false
set_option linter.unusedSimpArgs false
variable {P : Program} {K : Nat → Obj → Prop}
def KT (K : Nat → Obj → Prop) : Prop := ∃ (arr : Array Value) (T : TypeId) (fr : Nat × Nat), K 0 (.cells arr T fr) ∧ ∀ i : UInt32, i.toNat < 16 → arr[(U i).toNat]? = some (.int .u32 (U (four i)))
def Knw (K : Nat → Obj → Prop) (w : World) : Prop := ∀ b x, K b x → w.heap[b]? = some x
theorem KT.tab {w : World} (h : KT K) (hk : Knw K w) : Tab w := fun i hi => by
  obtain ⟨arr, T, fr, h1, h2⟩ := h
  exact (cell_of w _ _ _).2 ⟨arr, T, fr, hk _ _ h1, h2 i hi⟩
theorem Inv.knw {F : Fr} {φ : List Pl} {w : World} {h : List Ho} (hi : Inv F φ w h) (hK : F.known = K) : Knw K w := fun b x hx => (hi.frK b x (by rw [hK]; exact hx)).1
theorem Sp.ofBK {f : FuncId} {vs : List V} {h : List Ho} {l : List UInt8}
    (hc : ∀ (F : Fr) (φ : List Pl) (w : World) (args : Array Value), Knw K w → DenL F φ w args.toList vs → Calls P f args w (RetB w l)) : Sp P K f vs h fun u hh => u = .sl 1 (bs l) ∧ hh = h := by
  intro F φ w args hK hi hd
  refine (hc F φ w args (hi.knw hK) hd).mono ?_
  rintro e w' ⟨u, rfl, ho, bel⟩
  exact ⟨_, φ, _, h, rfl, .more bel.size (fun b hb => bel.block b hb) (io_below bel), hi.more bel.size (fun b hb => bel.block b hb) (io_below bel), .d (Den.ofOwn hi bel.size ho), rfl, rfl⟩
theorem Sp.ofBEK {f : FuncId} {vs : List V} {h : List Ho} {l : List UInt8} {n : Int}
    (hc : ∀ (F : Fr) (φ : List Pl) (w : World) (args : Array Value), Knw K w → DenL F φ w args.toList vs → Calls P f args w (RetBE w l n)) : Sp P K f vs h fun u hh => u = .tup [.sl 1 (bs l), .sc (.int .i64 n)] ∧ hh = h := by
  intro F φ w args hK hi hd
  refine (hc F φ w args (hi.knw hK) hd).mono ?_
  rintro e w' ⟨u, rfl, ho, bel⟩
  refine ⟨_, φ, _, h, rfl, .more bel.size (fun b hb => bel.block b hb) (io_below bel), hi.more bel.size (fun b hb => bel.block b hb) (io_below bel), ?_, rfl, rfl⟩
  refine .tup rfl fun i r v hr hv => ?_
  match i, hr, hv with
  | 0, hr, hv => simp at hr hv; subst hr hv; exact .d (Den.ofOwn hi bel.size ho)
  | 1, hr, hv => simp at hr hv; subst hr hv; exact .d (.sc rfl)
theorem turn_s (l : List UInt8) (at_ : Int) (m : UInt32) (hl : l.length ≤ 1000000000) (ha : -9223372036854775808 ≤ at_) (hb : at_ ≤ 9223372036854775807) (h : List Ho) : Sp Tryz.prog K 17 [.sl 1 (bs l), .sc (.int .i64 at_), .sc (.int .u32 (U m))] h fun u hh => u = .sl 1 (bs (turnF at_ m l)) ∧ hh = h :=
  .ofB fun F φ w args hd => by
    obtain ⟨r, s, t, rfl, h1, h2, h3⟩ := args3 hd
    rw [h2.sc.1, h3.sc.1]
    exact turn_c r l at_ m w (den_in h1).sb hl ha hb
theorem seal_s (hK : KT K) (l : List UInt8) (hl : l.length ≤ 1000000000) (h : List Ho) : Sp Tryz.prog K 10 [.sl 1 (bs l)] h fun u hh => u = .sl 1 (bs (sealF l)) ∧ hh = h :=
  .ofBK fun F φ w args hk hd => by
    obtain ⟨r, rfl, h1⟩ := args1 hd
    exact seal_c r l w (hK.tab hk) (den_in h1).sb hl
theorem open_s (hK : KT K) (l : List UInt8) (hl : l.length ≤ 1000000000) (h : List Ho) : Sp Tryz.prog K 23 [.sl 1 (bs l)] h fun u hh => u = .tup [.sl 1 (bs (openF l).1), .sc (.int .i64 (openF l).2)] ∧ hh = h :=
  .ofBEK fun F φ w args hk hd => by
    obtain ⟨r, rfl, h1⟩ := args1 hd
    exact open_c r l w (hK.tab hk) (den_in h1).sb hl
theorem rseal_s (l : List UInt8) (hl : l.length ≤ 1000000000) (h : List Ho) : Sp Tryz.prog K 11 [.sl 1 (bs l)] h fun u hh => u = .sl 1 (bs (sealF l)) ∧ hh = h :=
  .ofB fun F φ w args hd => by
    obtain ⟨r, rfl, h1⟩ := args1 hd
    rw [← rseal_seal]
    exact rseal_c r l w (den_in h1).sb hl
theorem turnF_len (at_ : Int) (m : UInt32) (l : List UInt8) : (turnF at_ m l).length = l.length := turnN_len at_ m l 32
theorem sealF_len (l : List UInt8) : (sealF l).length = l.length + 4 := by simp [sealF, tail4]
theorem Wk.toD {v : V} {x : D} {vs vs' : List V} (e : toD v = some x) (h : Wk vs vs') : Wk (v :: vs) (.d x :: vs') := by
  cases v <;> simp only [Proofs.YtgfnpcmehnjopaaGreatDoor.toD, Option.some.injEq, reduceCtorEq] at e
  · subst e; exact .same h
  · subst e; exact .own h
  · subst e; exact .full h
def bytesV (v : V) : Option (List UInt8) := match toD v with
  | some (.sl 1 es) => unbs es
  | _ => none
def crcX : Runner := fun f vs h =>
  if f = 17 then match vs with
    | [v, .d (.sc (.int .i64 a)), .d (.sc (.int .u32 m))] => match bytesV v with
      | some l => if l.length ≤ 1000000000 ∧ -9223372036854775808 ≤ a ∧ a ≤ 9223372036854775807 ∧ U (UInt32.ofNat m.toNat) = m then some (.sl 1 (bs (turnF a (UInt32.ofNat m.toNat) l)), h) else none
      | none => none
    | _ => none
  else if f = 10 then match vs with
    | [v] => match bytesV v with
      | some l => if l.length ≤ 1000000000 then some (.sl 1 (bs (sealF l)), h) else none
      | none => none
    | _ => none
  else if f = 23 then match vs with
    | [v] => match bytesV v with
      | some l => if l.length ≤ 1000000000 then some (.tup [.sl 1 (bs (openF l).1), .sc (.int .i64 (openF l).2)], h) else none
      | none => none
    | _ => none
  else none
end Go.Proofs.YtgfnpcmehnjopaaGreatDoor
end
section
namespace Go.Proofs.YtgfnpcmehnjopaaGreatDoor
open Go Go.RowKit
set_option linter.unusedVariables false
set_option linter.unusedSimpArgs false
def rs (l : List (List UInt8)) : List (List D) := l.map fun p => [.sl 1 (bs p)]
theorem rs_len (l : List (List UInt8)) : (rs l).length = l.length := by simp [rs]
theorem rs_get (l : List (List UInt8)) (i : Nat) : (rs l)[i]? = (l[i]?).map fun p => [.sl 1 (bs p)] := by simp [rs]
theorem rs_snoc (l : List (List UInt8)) (p : List UInt8) : rs l ++ [[.sl 1 (bs p)]] = rs (l ++ [p]) := by simp [rs]
theorem rs_take (l : List (List UInt8)) (n : Nat) : (rs l).take n = rs (l.take n) := by simp [rs]
theorem rs_drop (l : List (List UInt8)) (n : Nat) : (rs l).drop n = rs (l.drop n) := by simp [rs]
attribute [go_sem] rs_len rs_get rs_snoc rs_take rs_drop
def wrapF (p : List UInt8) : List UInt8 × Int := if 8192 < p.length then ([], 4) else (sealF (vput p.length ++ p), 0)
def nextF (b : List UInt8) : List UInt8 × Nat × Int :=
  if (tk b).2.2 ≠ 0 then ([], 0, (tk b).2.2) else if 8192 < (tk b).1.toNat then ([], 0, 4)
  else if b.length < (tk b).2.1 + (tk b).1.toNat + 4 then ([], 0, 2)
  else if (openF (b.take ((tk b).2.1 + (tk b).1.toNat + 4))).2 ≠ 0 then ([], 0, (openF (b.take ((tk b).2.1 + (tk b).1.toNat + 4))).2)
  else ((openF (b.take ((tk b).2.1 + (tk b).1.toNat + 4))).1.drop (tk b).2.1, (tk b).2.1 + (tk b).1.toNat + 4, 0)
def scanN (b : List UInt8) : Nat → List (List UInt8) → Nat → List (List UInt8) × Nat × Int
  | 0, out, used => (out, used, 0)
  | k + 1, out, used => if used = b.length then (out, used, 0) else if (nextF (b.drop used)).2.2 ≠ 0 then (out, used, (nextF (b.drop used)).2.2) else scanN b k (out ++ [(nextF (b.drop used)).1]) (used + (nextF (b.drop used)).2.1)
def scanF (b : List UInt8) : List (List UInt8) × Nat × Int := scanN b (b.length + 1) [] 0
def allN : List (List UInt8) → List UInt8 → List UInt8 × Int
  | [], b => (b, 0)
  | p :: l, b => if (wrapF p).2 ≠ 0 then ([], (wrapF p).2) else allN l (b ++ (wrapF p).1)
def allF (l : List (List UInt8)) : List UInt8 × Int := allN l []
theorem openF_ok {b : List UInt8} (h : (openF b).2 = 0) : 4 ≤ b.length ∧ (openF b).1 = b.take (b.length - 4) ∧ sealF (b.take (b.length - 4)) = b := by
  unfold openF at h ⊢
  split at h
  · simp at h
  · rename_i h4
    split at h
    · rename_i hs
      rw [if_neg h4, if_pos hs]
      exact ⟨by omega, rfl, hs⟩
    · simp at h
end Go.Proofs.YtgfnpcmehnjopaaGreatDoor
end
section
namespace Go.Proofs.YtgfnpcmehnjopaaGreatDoor
open Go Go.RowKit
set_option linter.unusedVariables false
set_option linter.unusedSimpArgs false
def frow (l : List (List UInt8)) : List UInt8 := (l.map fun p => (wrapF p).1).flatten
def Fits (l : List (List UInt8)) : Prop := ∀ p ∈ l, p.length ≤ 8192
theorem Fits.cons {p : List UInt8} {l : List (List UInt8)} (h : Fits (p :: l)) : p.length ≤ 8192 ∧ Fits l := ⟨h p (by simp), fun q hq => h q (by simp [hq])⟩
end Go.Proofs.YtgfnpcmehnjopaaGreatDoor
end
section
namespace Go.Proofs.YtgfnpcmehnjopaaGreatDoor
open Go Go.RowKit
set_option linter.unusedVariables false
set_option linter.unusedSimpArgs false
structure Msg where
  k : Int
  o : Int
  f : Int
  t : Int
  l : List Tx
def Msg.z : Msg := ⟨0, 0, 0, 0, []⟩
abbrev msgV (m : Msg) : V := .agg [.sc (.int .i64 m.k), .sc (.int .i64 m.o), .sc (.int .i64 m.f), .sc (.int .i64 m.t), .sl 6 (txs m.l)]
def firstE : List Tx → Int
  | [] => 0
  | t :: l => if checkF t ≠ 0 then checkF t else firstE l
def otherO (o : Int) (l : List Tx) : Bool := l.any fun t => decide (t.o ≠ o)
def mdata (m : Msg) : Int :=
  if m.f ≠ 0 ∨ m.t ≠ 0 then 3 else if 4 < m.l.length then 4 else if firstE m.l ≠ 0 then firstE m.l else
  if m.l.length = 0 ∨ otherO m.o m.l = true then 1 else if rowF m.l = false then 6 else 0
def mack (m : Msg) : Int := if m.f ≠ 0 ∨ 0 < m.l.length then 3 else if m.t < 0 ∨ 4611686018427387903 < m.t then 1 else 0
def mask (m : Msg) : Int := if 0 < m.l.length then 3 else if m.f < 1 ∨ 4611686018427387903 < m.f ∨ m.t < m.f ∨ 4611686018427387903 < m.t then 1 else 0
def mchk (m : Msg) : Int := if m.k < 1 ∨ 3 < m.k then 3 else if m.o < 0 ∨ 2 < m.o then 9 else if m.k = 1 then mdata m else if m.k = 2 then mack m else mask m
def mbody (m : Msg) : List UInt8 := if m.k = 1 then (packF m.l).1 else if m.k = 2 then vput m.t.toNat else vput m.f.toNat ++ vput m.t.toNat
def mput (m : Msg) : List UInt8 × Int := if mchk m ≠ 0 then ([], mchk m) else (sealF (vput m.k.toNat ++ vput m.o.toNat ++ mbody m), 0)
def num1 (b : List UInt8) : Nat × List UInt8 × Int :=
  if (tk b).2.2 ≠ 0 then (0, b, (tk b).2.2) else if 4611686018427387903 < (tk b).1.toNat then (0, b, 1) else ((tk b).1.toNat, b.drop (tk b).2.1, 0)
def mparts (k o : Nat) (r : List UInt8) : Msg × Int :=
  if k = 1 then (⟨1, o, 0, 0, (unpackF r).1⟩, (unpackF r).2) else
  if k = 2 then
    if (num1 r).2.2 ≠ 0 then (⟨2, o, 0, 0, []⟩, (num1 r).2.2) else if (num1 r).2.1 ≠ [] then (⟨2, o, 0, (num1 r).1, []⟩, 3) else (⟨2, o, 0, (num1 r).1, []⟩, 0)
  else
    if (num1 r).2.2 ≠ 0 then (⟨3, o, 0, 0, []⟩, (num1 r).2.2) else
    if (num1 (num1 r).2.1).2.2 ≠ 0 then (⟨3, o, (num1 r).1, 0, []⟩, (num1 (num1 r).2.1).2.2) else
    if (num1 (num1 r).2.1).2.1 ≠ [] then (⟨3, o, (num1 r).1, (num1 (num1 r).2.1).1, []⟩, 3) else (⟨3, o, (num1 r).1, (num1 (num1 r).2.1).1, []⟩, 0)
def mread (p : List UInt8) : Msg × Int :=
  if (tk p).2.2 ≠ 0 then (.z, (tk p).2.2) else
  if (tk p).1.toNat < 1 ∨ 3 < (tk p).1.toNat then (.z, 3) else
  if (tk (p.drop (tk p).2.1)).2.2 ≠ 0 then (.z, (tk (p.drop (tk p).2.1)).2.2) else
  if 3 ≤ (tk (p.drop (tk p).2.1)).1.toNat then (.z, 9) else
  if (mparts (tk p).1.toNat (tk (p.drop (tk p).2.1)).1.toNat ((p.drop (tk p).2.1).drop (tk (p.drop (tk p).2.1)).2.1)).2 ≠ 0 then (.z, (mparts (tk p).1.toNat (tk (p.drop (tk p).2.1)).1.toNat ((p.drop (tk p).2.1).drop (tk (p.drop (tk p).2.1)).2.1)).2) else
  if mchk (mparts (tk p).1.toNat (tk (p.drop (tk p).2.1)).1.toNat ((p.drop (tk p).2.1).drop (tk (p.drop (tk p).2.1)).2.1)).1 ≠ 0 then (.z, mchk (mparts (tk p).1.toNat (tk (p.drop (tk p).2.1)).1.toNat ((p.drop (tk p).2.1).drop (tk (p.drop (tk p).2.1)).2.1)).1) else
  ((mparts (tk p).1.toNat (tk (p.drop (tk p).2.1)).1.toNat ((p.drop (tk p).2.1).drop (tk (p.drop (tk p).2.1)).2.1)).1, 0)
def mtake (b : List UInt8) : Msg × Int := if (openF b).2 ≠ 0 then (.z, (openF b).2) else mread (openF b).1
theorem mread_of {p q r : List UInt8} {u v : UInt64} {n m : Nat} (h1 : tk p = (u, n, 0)) (hq : p.drop n = q) (hu : 1 ≤ u.toNat ∧ u.toNat ≤ 3) (h2 : tk q = (v, m, 0)) (hr : q.drop m = r) (hv : v.toNat < 3) :
    mread p = if (mparts u.toNat v.toNat r).2 ≠ 0 then (.z, (mparts u.toNat v.toNat r).2) else if mchk (mparts u.toNat v.toNat r).1 ≠ 0 then (.z, mchk (mparts u.toNat v.toNat r).1) else ((mparts u.toNat v.toNat r).1, 0) := by
  unfold mread
  rw [h1]
  dsimp only
  rw [hq, h2]
  dsimp only
  rw [hr, if_neg (by simp), if_neg (by omega), if_neg (by simp), if_neg (by omega)]
theorem firstE_all : ∀ {l : List Tx}, firstE l = 0 → ∀ t ∈ l, checkF t = 0
  | [], _, t, ht => by cases ht
  | u :: l, h, t, ht => by
    unfold firstE at h
    by_cases hc : checkF u ≠ 0
    · rw [if_pos hc] at h; exact absurd h hc
    · rw [if_neg hc] at h
      rcases List.mem_cons.1 ht with rfl | ht
      · exact Decidable.not_not.1 hc
      · exact firstE_all h t ht
theorem packGo_fine : ∀ {l : List Tx} (x : Cod Di), (∀ t ∈ l, checkF t = 0) → (packGo x l).2 = 0
  | [], x, _ => rfl
  | t :: l, x, h => by
    rcases tput_cases (x := x) t with ⟨hc, p⟩ | ⟨hc, p⟩
    · exact absurd (h t (by simp)) hc
    · rw [packGo_ok p]
      have := packGo_fine (l := l) (tputF dpF x t).2 fun u hu => h u (by simp [hu])
      rw [if_neg (by rw [this]; simp)]
theorem pack_fine {l : List Tx} (h4 : l.length ≤ 4) (h : ∀ t ∈ l, checkF t = 0) : (packF l).2 = 0 := by
  unfold packF
  rw [if_neg (by omega), if_neg (by rw [packGo_fine Cod.new h]; simp)]
theorem mdata_ok {m : Msg} (h : mdata m = 0) : m.f = 0 ∧ m.t = 0 ∧ m.l.length ≤ 4 ∧ ∀ t ∈ m.l, checkF t = 0 := by
  unfold mdata at h
  split at h
  · exact absurd h (by decide)
  split at h
  · exact absurd h (by decide)
  split at h
  · rename_i h3; exact absurd h h3
  rename_i h1 h2 h3
  exact ⟨by omega, by omega, by omega, firstE_all (Decidable.not_not.1 h3)⟩
theorem mchk_ok {m : Msg} (h : mchk m = 0) : (1 ≤ m.k ∧ m.k ≤ 3) ∧ (0 ≤ m.o ∧ m.o ≤ 2) ∧ ((m.k = 1 ∧ mdata m = 0) ∨ (m.k = 2 ∧ mack m = 0) ∨ (m.k = 3 ∧ mask m = 0)) := by
  unfold mchk at h
  split at h
  · exact absurd h (by decide)
  split at h
  · exact absurd h (by decide)
  refine ⟨by omega, by omega, ?_⟩
  split at h
  · exact .inl ⟨by assumption, h⟩
  split at h
  · exact .inr (.inl ⟨by assumption, h⟩)
  · exact .inr (.inr ⟨by omega, h⟩)
theorem mack_ok {m : Msg} (h : mack m = 0) : m.f = 0 ∧ m.l = [] ∧ 0 ≤ m.t ∧ m.t ≤ 4611686018427387903 := by
  unfold mack at h
  split at h
  · exact absurd h (by decide)
  split at h
  · exact absurd h (by decide)
  exact ⟨by omega, List.length_eq_zero_iff.1 (by omega), by omega, by omega⟩
theorem mask_ok {m : Msg} (h : mask m = 0) : m.l = [] ∧ 1 ≤ m.f ∧ m.f ≤ m.t ∧ m.t ≤ 4611686018427387903 := by
  unfold mask at h
  split at h
  · exact absurd h (by decide)
  split at h
  · exact absurd h (by decide)
  exact ⟨List.length_eq_zero_iff.1 (by omega), by omega, by omega, by omega⟩
theorem of_nat {n : Nat} (h : n < 18446744073709551616) : (UInt64.ofNat n).toNat = n := UInt64.toNat_ofNat_of_lt' h
theorem num1_at {n : Nat} (hn : n ≤ 4611686018427387903) (r : List UInt8) : num1 (vput n ++ r) = (n, r, 0) := by
  have e := tk_nat n (by omega) r
  unfold num1
  rw [e]
  dsimp only
  rw [of_nat (by omega), if_neg (by simp), if_neg (by omega), List.drop_left]
theorem mbody1 (o f t : Int) (l : List Tx) : mbody ⟨1, o, f, t, l⟩ = (packF l).1 := by unfold mbody; exact if_pos rfl
theorem mbody2 (o f t : Int) (l : List Tx) : mbody ⟨2, o, f, t, l⟩ = vput t.toNat := by
  unfold mbody; rw [if_neg (show ¬ (2 : Int) = 1 by decide)]; exact if_pos rfl
theorem mbody3 (o f t : Int) (l : List Tx) : mbody ⟨3, o, f, t, l⟩ = vput f.toNat ++ vput t.toNat := by
  unfold mbody; rw [if_neg (show ¬ (3 : Int) = 1 by decide)]; exact if_neg (show ¬ (3 : Int) = 2 by decide)
theorem mparts1 (o : Nat) (r : List UInt8) : mparts 1 o r = (⟨1, o, 0, 0, (unpackF r).1⟩, (unpackF r).2) := by unfold mparts; exact if_pos rfl
theorem mparts2 (o : Nat) (r : List UInt8) : mparts 2 o r = if (num1 r).2.2 ≠ 0 then (⟨2, o, 0, 0, []⟩, (num1 r).2.2) else if (num1 r).2.1 ≠ [] then (⟨2, o, 0, (num1 r).1, []⟩, 3) else (⟨2, o, 0, (num1 r).1, []⟩, 0) := by
  unfold mparts; rw [if_neg (by decide)]; exact if_pos rfl
theorem mparts3 (o : Nat) (r : List UInt8) : mparts 3 o r = if (num1 r).2.2 ≠ 0 then (⟨3, o, 0, 0, []⟩, (num1 r).2.2) else
    if (num1 (num1 r).2.1).2.2 ≠ 0 then (⟨3, o, (num1 r).1, 0, []⟩, (num1 (num1 r).2.1).2.2) else
    if (num1 (num1 r).2.1).2.1 ≠ [] then (⟨3, o, (num1 r).1, (num1 (num1 r).2.1).1, []⟩, 3) else (⟨3, o, (num1 r).1, (num1 (num1 r).2.1).1, []⟩, 0) := by
  unfold mparts; rw [if_neg (by decide)]; exact if_neg (by decide)
theorem mread_back {m : Msg} (h : mchk m = 0) : mread (vput m.k.toNat ++ vput m.o.toNat ++ mbody m) = (m, 0) := by
  obtain ⟨hk, ho, hb⟩ := mchk_ok h
  have e1 := tk_nat m.k.toNat (by omega) (vput m.o.toNat ++ mbody m)
  have e2 := tk_nat m.o.toNat (by omega) (mbody m)
  have u1 := of_nat (n := m.k.toNat) (by omega)
  have u2 := of_nat (n := m.o.toNat) (by omega)
  rw [List.append_assoc, mread_of e1 List.drop_left (by rw [u1]; omega) e2 List.drop_left (by rw [u2]; omega), u1, u2]
  have hp : mparts m.k.toNat m.o.toNat (mbody m) = (m, 0) := by
    obtain ⟨k, o, f, t, l⟩ := m
    dsimp only at hk ho hb ⊢
    rcases hb with ⟨rfl, hd⟩ | ⟨rfl, hd⟩ | ⟨rfl, hd⟩
    · obtain ⟨a1, a2, a3, a4⟩ := mdata_ok hd
      dsimp only at a1 a2 a3 a4
      have := unpack_pack (pack_fine a3 a4)
      rw [mbody1, show (1 : Int).toNat = 1 from rfl, mparts1, this]
      dsimp only
      rw [a1, a2]
      congr 2; omega
    · obtain ⟨a1, a2, a3, a4⟩ := mack_ok hd
      dsimp only at a1 a2 a3 a4
      have := num1_at (n := t.toNat) (by omega) []
      rw [List.append_nil] at this
      rw [mbody2, show (2 : Int).toNat = 2 from rfl, mparts2, this]
      dsimp only
      rw [if_neg (by simp), if_neg (by simp), a1, a2]
      congr 2 <;> omega
    · obtain ⟨a1, a2, a3, a4⟩ := mask_ok hd
      dsimp only at a1 a2 a3 a4
      have e3 := num1_at (n := f.toNat) (by omega) (vput t.toNat)
      have e4 := num1_at (n := t.toNat) (by omega) []
      rw [List.append_nil] at e4
      rw [mbody3, show (3 : Int).toNat = 3 from rfl, mparts3, e3]
      dsimp only
      rw [e4]
      dsimp only
      rw [if_neg (by simp), if_neg (by simp), if_neg (by simp), a1]
      congr 2 <;> omega
  rw [hp]
  dsimp only
  rw [h]
  simp
theorem mtake_mput {m : Msg} (h : mchk m = 0) : mtake (mput m).1 = (m, 0) := by
  unfold mput
  rw [if_neg (by rw [h]; simp)]
  unfold mtake
  rw [openF_seal]
  dsimp only
  rw [if_neg (by simp), mread_back h]
theorem num1_ok {b r : List UInt8} {n : Nat} (h : num1 b = (n, r, 0)) : n ≤ 4611686018427387903 ∧ b = vput n ++ r := by
  unfold num1 at h
  split at h
  · rename_i h1; simp only [Prod.mk.injEq] at h; exact absurd h.2.2 h1
  split at h
  · simp at h
  rename_i h1 h2
  obtain ⟨k1, k2, k3⟩ := tk_ok (Decidable.not_not.1 h1)
  simp only [Prod.mk.injEq, and_true] at h
  obtain ⟨rfl, rfl⟩ := h
  exact ⟨by omega, by rw [k3, List.take_append_drop]⟩
theorem mparts_ok {k o : Nat} {r : List UInt8} {m : Msg} (hk : 1 ≤ k ∧ k ≤ 3) (h : mparts k o r = (m, 0)) : m.k = k ∧ m.o = o ∧ mbody m = r := by
  unfold mparts at h
  split at h
  · rename_i hk1
    subst hk1
    simp only [Prod.mk.injEq] at h
    obtain ⟨rfl, h⟩ := h
    have := pack_unpack (b := r) (l := (unpackF r).1) (Prod.ext rfl h)
    exact ⟨rfl, rfl, by rw [mbody1, this.1]⟩
  split at h
  · rename_i hk2
    subst hk2
    obtain ⟨n, r2, e, hn⟩ : ∃ n r2 e, num1 r = (n, r2, e) := ⟨_, _, _, rfl⟩
    rw [hn] at h
    dsimp only at h
    split at h
    · rename_i h1; simp only [Prod.mk.injEq] at h; exact absurd h.2 h1
    split at h
    · simp at h
    rename_i h1 h2
    simp only [Prod.mk.injEq, and_true] at h
    subst h
    rw [Decidable.not_not.1 h1, Decidable.not_not.1 h2] at hn
    have := num1_ok hn
    refine ⟨rfl, rfl, ?_⟩
    rw [mbody2, this.2]
    simp
  · have hk3 : k = 3 := by omega
    subst hk3
    obtain ⟨n, r2, e, hn⟩ : ∃ n r2 e, num1 r = (n, r2, e) := ⟨_, _, _, rfl⟩
    rw [hn] at h
    dsimp only at h
    obtain ⟨n', r3, e', hn'⟩ : ∃ n r4 e, num1 r2 = (n, r4, e) := ⟨_, _, _, rfl⟩
    rw [hn'] at h
    dsimp only at h
    split at h
    · rename_i h1; simp only [Prod.mk.injEq] at h; exact absurd h.2 h1
    split at h
    · rename_i h1; simp only [Prod.mk.injEq] at h; exact absurd h.2 h1
    split at h
    · simp at h
    rename_i h1 h2 h3
    simp only [Prod.mk.injEq, and_true] at h
    subst h
    rw [Decidable.not_not.1 h1] at hn
    rw [Decidable.not_not.1 h2, Decidable.not_not.1 h3] at hn'
    have g1 := num1_ok hn
    have g2 := num1_ok hn'
    refine ⟨rfl, rfl, ?_⟩
    rw [mbody3, g1.2, g2.2]
    simp
theorem mput_mtake {b : List UInt8} {m : Msg} (h : mtake b = (m, 0)) : mput m = (b, 0) ∧ mchk m = 0 := by
  unfold mtake at h
  split at h
  · rename_i h1; simp only [Prod.mk.injEq] at h; exact absurd h.2 h1
  rename_i h1
  obtain ⟨o1, o2, o3⟩ := openF_ok (Decidable.not_not.1 h1)
  generalize (openF b).1 = p at h o2
  rw [← o2] at o3
  obtain ⟨u, n, e, ht⟩ : ∃ u n e, tk p = (u, n, e) := ⟨_, _, _, rfl⟩
  obtain ⟨v, k, e', ht'⟩ : ∃ u k e, tk (p.drop n) = (u, k, e) := ⟨_, _, _, rfl⟩
  have he : e = 0 := by
    by_cases h0 : e = 0
    · exact h0
    · unfold mread at h; rw [ht] at h; rw [if_pos (show (u, n, e).2.2 ≠ 0 from h0)] at h; simp only [Prod.mk.injEq] at h; exact absurd h.2 h0
  subst he
  have hu : 1 ≤ u.toNat ∧ u.toNat ≤ 3 := by
    by_cases h0 : u.toNat < 1 ∨ 3 < u.toNat
    · unfold mread at h; rw [ht] at h; dsimp only at h; rw [if_neg (by simp), if_pos h0] at h; simp at h
    · omega
  have he' : e' = 0 := by
    by_cases h0 : e' = 0
    · exact h0
    · unfold mread at h; rw [ht] at h; dsimp only at h; rw [if_neg (by simp), if_neg (by omega), ht'] at h; rw [if_pos (show (v, k, e').2.2 ≠ 0 from h0)] at h; simp only [Prod.mk.injEq] at h; exact absurd h.2 h0
  subst he'
  have hv : v.toNat < 3 := by
    by_cases h0 : 3 ≤ v.toNat
    · unfold mread at h; rw [ht] at h; dsimp only at h; rw [if_neg (by simp), if_neg (by omega), ht'] at h; dsimp only at h; rw [if_neg (by simp), if_pos h0] at h; simp at h
    · omega
  rw [mread_of ht rfl hu ht' rfl hv] at h
  obtain ⟨m', e2, hm⟩ : ∃ m' e, mparts u.toNat v.toNat ((p.drop n).drop k) = (m', e) := ⟨_, _, rfl⟩
  rw [hm] at h
  dsimp only at h
  split at h
  · rename_i h2; simp only [Prod.mk.injEq] at h; exact absurd h.2 h2
  split at h
  · rename_i h2; simp only [Prod.mk.injEq] at h; exact absurd h.2 h2
  rename_i h2 h3
  simp only [Prod.mk.injEq, and_true] at h
  subst h
  rw [Decidable.not_not.1 h2] at hm
  obtain ⟨c1, c2, c3⟩ := mparts_ok hu hm
  have h3 := Decidable.not_not.1 h3
  refine ⟨?_, h3⟩
  unfold mput
  rw [if_neg (by rw [h3]; simp)]
  have k1 := tk_ok (l := p) (by rw [ht])
  have k2 := tk_ok (l := p.drop n) (by rw [ht'])
  rw [ht] at k1
  rw [ht'] at k2
  have ep : vput m'.k.toNat ++ vput m'.o.toNat ++ mbody m' = p := by
    rw [c1, c2, c3, Int.toNat_natCast, Int.toNat_natCast, k1.2.2, k2.2.2, List.append_assoc, List.take_append_drop, List.take_append_drop]
  rw [ep, o3]
end Go.Proofs.YtgfnpcmehnjopaaGreatDoor
end
section
namespace Go.Proofs.YtgfnpcmehnjopaaGreatDoor
open Go Go.RowKit
set_option linter.unusedVariables false
set_option linter.unusedSimpArgs false
variable {P : Program} {K : Nat → Obj → Prop} {n0 : Nat} {M : Oper → TypeId → Bool}
def inB (i : Nat) : List Nat → Bool
  | [] => false
  | j :: r => if i = j then true else inB i r
theorem inB_nil (i : Nat) : inB i [] = false := rfl
theorem inB_cons (i j : Nat) (r : List Nat) : inB i (j :: r) = if i = j then true else inB i r := rfl
theorem inB_mem (i : Nat) : ∀ r : List Nat, inB i r = r.contains i
  | [] => rfl
  | j :: r => by
    unfold inB
    rw [inB_mem i r, List.contains_cons]
    by_cases h : i = j
    · subst h; simp
    · simp [h]
theorem thinW_z (ro : List Nat) : thinW ro [] = [] := rfl
theorem thinW_c (ro : List Nat) (i : Nat) (o : Ho) (l : List (Nat × Ho)) : thinW ro ((i, o) :: l) = if inB i ro = true then thinW ro l else (i, o) :: thinW ro l := by
  rw [inB_mem]
  by_cases h : ro.contains i = true
  · rw [if_pos h]; simp only [thinW, List.filter_cons]; rw [if_neg (by rw [h]; simp)]
  · rw [if_neg h]; simp only [thinW, List.filter_cons]; rw [if_pos (by simpa using h)]
def roB (ro : List Nat) (h : List Ho) : List (Nat × Ho) → Prop
  | [] => True
  | (i, o) :: l => (if inB i ro = true then h[i]? = some o else True) ∧ roB ro h l
attribute [go_sem] thinW_z thinW_c inB_nil inB_cons
section
variable {ops : Array Oper} {N : Sv → Prop} {l : List Oper} {v : V} {f : FuncId} {vs vs' : List V} {hl hl' h : List Ho} {tm : List V} {dst : Option Tmp} {ids : List (List Nat × List Nat)}
end
theorem WPV.drawG {id : Nat} {L : List Oper} {Q : Exit → Sv → Prop} {st : Sv} (hm : P.follows .mixedOrders = true) (hR : okR L.toArray = true)
    (h : ∀ N : Sv → Prop, (∀ st, Q .normal st → N st) → ∀ ops : Array Oper, (∀ tm j, yieldedV ops tm j = yieldL (L.map (·.dst)) tm j) → (∀ ids, okOrd L.toArray ids = true → okOrd ops ids = true) → drawV P M K ops N L st.tm st.h []) : WPV P K n0 (.region id L.toArray true) Q st :=
  .drawK (M := M) hm hR fun N hN => h N hN L.toArray (yieldL_eq L) fun _ h => h
theorem gDG {id : Nat} {L L2 : List Oper} {l2 : List (Option Tmp)} {Q : Exit → Sv → Prop} {st : Sv}
    (h : ∀ N : Sv → Prop, (∀ st, Q .normal st → N st) → ∀ ops : Array Oper, (∀ tm j, yieldedV ops tm j = yieldL l2 tm j) → (∀ ids, okOrd L.toArray ids = true → okOrd ops ids = true) → drawV P M K ops N L2 st.tm st.h [])
    (e1 : L = L2 := by first | (simp only [List.append]; rfl) | rfl) (e2 : L2.map (·.dst) = l2 := by first | (simp only [List.map_cons, List.map_nil]; rfl) | rfl) (hm : P.follows .mixedOrders = true := by kernel_rfl) (hR : okR L.toArray = true := by kernel_rfl) : WPV P K n0 (.region id L.toArray true) Q st := by
  subst e1; subst e2; exact .drawG (M := M) hm hR h
def regC (i : Nat) : Code → Option Code
  | .region id ops b => if id = i then some (.region id ops b) else none
  | .seq x y => match regC i x with
    | some c => some c
    | none => regC i y
  | .cond _ x y => match regC i x with
    | some c => some c
    | none => regC i y
  | .block _ x => regC i x
  | .loop x => regC i x
  | .scope x => regC i x
  | _ => none
structure Hd (p : Prop) : Prop where
  out : p
theorem Wk.bl {a b : Bool} {vs vs' : List V} (h : a = b) (hs : Wk vs vs') : Wk (.sc (.bool a) :: vs) (.sc (.bool b) :: vs') := h ▸ Wk.same hs
end Go.Proofs.YtgfnpcmehnjopaaGreatDoor
end
section
namespace Go.Proofs.YtgfnpcmehnjopaaGreatDoor
open Go Go.RowKit
set_option linter.unusedVariables false
set_option linter.unusedSimpArgs false
variable {K : Nat → Obj → Prop}
def eqB (a b : Wr) : Bool := (a.k.toList == b.k.toList && (a.v.toList == b.v.toList && a.g == b.g))
theorem eqB_refl (a : Wr) : eqB a a = true := by simp [eqB]
def weqL : List Wr → List Wr → Bool
  | [], [] => true
  | a :: l, b :: m => eqB a b && weqL l m
  | _, _ => false
theorem weqL_cons (a b : Wr) (l m : List Wr) : weqL (a :: l) (b :: m) = (eqB a b && weqL l m) := rfl
theorem weqL_ne : ∀ {l m : List Wr}, l.length ≠ m.length → weqL l m = false
  | [], [], h => absurd rfl h
  | a :: l, b :: m, h => by
    rw [weqL_cons, weqL_ne (l := l) (m := m) (by simpa using h), Bool.and_false]
  | [], _ :: _, _ => rfl
  | _ :: _, [], _ => rfl
theorem weqL_refl (he : ∀ a, eqB a a = true) : ∀ l, weqL l l = true
  | [] => rfl
  | a :: l => by rw [weqL_cons, he, weqL_refl he l]; rfl
set_option maxRecDepth 100000 in
set_option maxHeartbeats 1000000 in
theorem weqg_s (a b : List Wr) (ha : a.length ≤ 9223372036854775807) (hb : b.length ≤ 9223372036854775807) : Sp Tryz.prog K 59 [.sl 3 (wrl a), .sl 3 (wrl b)] [] fun u hh => u = .sc (.bool (weqL a b)) ∧ hh = [] := by
  have hga := True.intro
  have hgb := True.intro
  have q := True.intro
  by_cases hn : a.length = b.length
  · skip
    refine Sp.of_bodyE Tryz.func59 rfl ?_
    intro Q hQ
    simp only [List.replicate, List.length_cons, List.length_nil, Tryz.ntmps59, Nat.reduceAdd, Nat.reduceSub, List.cons_append, List.nil_append, go_sem]
    have hz : True := trivial
    have hy := yieldedV_eq
    have hL := And.intro @hga (And.intro @hgb (@q))
    repeat' (first | (refine WPV.seqK ?_; intro N hN) | refine gA ?_ | (refine gR (M := noM) ?_; intro N hN ops hy) | (refine gD (M := noM) ?_; intro N hN; have hy := yieldedV_eq) | (refine WPV.condK ?_; intro A hA B hB) | (refine here ?_; refine sS ?_) | refine Both.mk ?_ ?_ | (refine hN _ ?_; try clear hN N; try clear hy ops) | (refine hA ?_; clear hA A hB B; try simp only [hz]) | (refine hB ?_; clear hA A hB B; try simp only [hz]) | (refine gG ?_ ?_ <;> (intro hz; have h := nm hz; try (exfalso; omega)) <;> (have hz := nz hz; try subst hz)) | (rw [if_pos (show _ ∧ _ from ⟨by omega, by omega⟩)]; refine sS ?_) | refine gT ?_ | (clear hN N))
    clear hga hgb q
    refine WPV.loopW (α := Nat) (fun i => a.length - i) (fun i => ⟨[.sl 3 (wrl a), .sl 3 (wrl b), .any, .any, .any, .any, .any, .any, .any, .any, .any, .any, .sc (.int .i64 (a.length : Int)), .sc (.int .i64 ((i : Nat) : Int)), .any, .any, .any, .any, .any, .any, .any, .any, .any, .any, .any, .any], []⟩) (fun i => i ≤ a.length ∧ weqL a b = weqL (a.drop i) (b.drop i)) 0 Desc.weakA ⟨Nat.zero_le _, rfl⟩ (fun i hJ H => ?_)
    obtain ⟨j1, j2⟩ := hJ
    by_cases h : i < a.length
    · have h' : i < b.length := by omega
      obtain ⟨x, hx⟩ : ∃ x, a[i] = x := ⟨_, rfl⟩
      obtain ⟨y, hy2⟩ : ∃ y, b[i] = y := ⟨_, rfl⟩
      have hga : a[i]? = some x := by rw [← hx]; exact List.getElem?_eq_getElem h
      have hgb : b[i]? = some y := by rw [← hy2]; exact List.getElem?_eq_getElem h'
      rw [List.drop_eq_getElem_cons h, List.drop_eq_getElem_cons h', hx, hy2, weqL_cons] at j2
      cases q0 : eqB x y with
      | true =>
        rw [q0, Bool.true_and] at j2
        have H' := H (i + 1) ⟨h, j2⟩ (by omega)
        clear H hx hy2 j2
        obtain ⟨xk, xv, xg⟩ := x
        obtain ⟨yk, yv, yg⟩ := y
        have q : (xk.toList == yk.toList && (xv.toList == yv.toList && xg == yg)) = true := q0
        refine loopV ?_
        have hz : True := trivial
        have hy := yieldedV_eq
        have hL := And.intro @hga (And.intro @hgb (@q))
        repeat' (first | (refine WPV.seqK ?_; intro N hN) | refine gA ?_ | (refine gR (M := noM) ?_; intro N hN ops hy) | (refine gD (M := noM) ?_; intro N hN; have hy := yieldedV_eq) | (refine WPV.condK ?_; intro A hA B hB) | (refine here ?_; refine sS ?_) | refine Both.mk ?_ ?_ | (refine hN _ ?_; try clear hN N; try clear hy ops) | (refine hA ?_; clear hA A hB B; try simp only [hz]) | (refine hB ?_; clear hA A hB B; try simp only [hz]) | (refine gG ?_ ?_ <;> (intro hz; have h := nm hz; try (exfalso; omega)) <;> (have hz := nz hz; try subst hz)) | (rw [if_pos (show _ ∧ _ from ⟨by omega, by omega⟩)]; refine sS ?_) | refine gT ?_ | (clear hN N))
        all_goals (exact rndZ (Desc.re [] rfl) (H'))
      | false =>
        rw [q0, Bool.false_and] at j2
        rw [j2] at hQ
        clear H hx hy2 j2
        obtain ⟨xk, xv, xg⟩ := x
        obtain ⟨yk, yv, yg⟩ := y
        have q : (xk.toList == yk.toList && (xv.toList == yv.toList && xg == yg)) = false := q0
        refine loopV ?_
        have hz : True := trivial
        have hy := yieldedV_eq
        have hL := And.intro @hga (And.intro @hgb (@q))
        repeat' (first | (refine WPV.seqK ?_; intro N hN) | refine gA ?_ | (refine gR (M := noM) ?_; intro N hN ops hy) | (refine gD (M := noM) ?_; intro N hN; have hy := yieldedV_eq) | (refine WPV.condK ?_; intro A hA B hB) | (refine here ?_; refine sS ?_) | refine Both.mk ?_ ?_ | (refine hN _ ?_; try clear hN N; try clear hy ops) | (refine hA ?_; clear hA A hB B; try simp only [hz]) | (refine hB ?_; clear hA A hB B; try simp only [hz]) | (refine gG ?_ ?_ <;> (intro hz; have h := nm hz; try (exfalso; omega)) <;> (have hz := nz hz; try subst hz)) | (rw [if_pos (show _ ∧ _ from ⟨by omega, by omega⟩)]; refine sS ?_) | refine gT ?_ | (clear hN N))
        all_goals (first | exact retZ hQ Tryz.results59 (Desc.re [] rfl) | exact retZN hQ Tryz.results59 (Desc.re [] rfl))
    obtain rfl : i = a.length := by omega
    have e : weqL a b = true := by rw [j2, hn, List.drop_length, ← hn, List.drop_length]; rfl
    rw [e] at hQ
    clear H j2 e
    have hga := True.intro
    have hgb := True.intro
    have q := True.intro
    refine loopV ?_
    have hz : True := trivial
    have hy := yieldedV_eq
    have hL := And.intro @hga (And.intro @hgb (@q))
    repeat' (first | (refine WPV.seqK ?_; intro N hN) | refine gA ?_ | (refine gR (M := noM) ?_; intro N hN ops hy) | (refine gD (M := noM) ?_; intro N hN; have hy := yieldedV_eq) | (refine WPV.condK ?_; intro A hA B hB) | (refine here ?_; refine sS ?_) | refine Both.mk ?_ ?_ | (refine hN _ ?_; try clear hN N; try clear hy ops) | (refine hA ?_; clear hA A hB B; try simp only [hz]) | (refine hB ?_; clear hA A hB B; try simp only [hz]) | (refine gG ?_ ?_ <;> (intro hz; have h := nm hz; try (exfalso; omega)) <;> (have hz := nz hz; try subst hz)) | (rw [if_pos (show _ ∧ _ from ⟨by omega, by omega⟩)]; refine sS ?_) | refine gT ?_ | (clear hN N))
    all_goals (first | exact retZ hQ Tryz.results59 (Desc.re [] rfl) | exact retZN hQ Tryz.results59 (Desc.re [] rfl))
  · have e : weqL a b = false := weqL_ne hn
    rw [e]
    refine Sp.of_bodyE Tryz.func59 rfl ?_
    intro Q hQ
    simp only [List.replicate, List.length_cons, List.length_nil, Tryz.ntmps59, Nat.reduceAdd, Nat.reduceSub, List.cons_append, List.nil_append, go_sem]
    have hz : True := trivial
    have hy := yieldedV_eq
    have hL := And.intro @hga (And.intro @hgb (@q))
    repeat' (first | (refine WPV.seqK ?_; intro N hN) | refine gA ?_ | (refine gR (M := noM) ?_; intro N hN ops hy) | (refine gD (M := noM) ?_; intro N hN; have hy := yieldedV_eq) | (refine WPV.condK ?_; intro A hA B hB) | (refine here ?_; refine sS ?_) | refine Both.mk ?_ ?_ | (refine hN _ ?_; try clear hN N; try clear hy ops) | (refine hA ?_; clear hA A hB B; try simp only [hz]) | (refine hB ?_; clear hA A hB B; try simp only [hz]) | (refine gG ?_ ?_ <;> (intro hz; have h := nm hz; try (exfalso; omega)) <;> (have hz := nz hz; try subst hz)) | (rw [if_pos (show _ ∧ _ from ⟨by omega, by omega⟩)]; refine sS ?_) | refine gT ?_ | (clear hN N))
    all_goals (first | exact retZ hQ Tryz.results59 (Desc.re [] rfl) | exact retZN hQ Tryz.results59 (Desc.re [] rfl))
theorem bool_i (b : Bool) : ∃ i : Int, b = decide (i = 0) := by
  cases b
  · exact ⟨1, rfl⟩
  · exact ⟨0, rfl⟩
def tsameF (a b : Tx) : Bool := decide (a.o = b.o ∧ a.s = b.s ∧ (a.c.x = b.c.x ∧ a.c.y = b.c.y ∧ a.c.z = b.c.z) ∧ weqL a.w b.w = true)
theorem tsameF_refl (a : Tx) : tsameF a a = true := decide_eq_true ⟨rfl, rfl, ⟨rfl, rfl, rfl⟩, weqL_refl eqB_refl _⟩
set_option maxRecDepth 100000 in
set_option maxHeartbeats 4000000 in
theorem tsameg_s (a b : Tx) (h1 : a.w.length ≤ 9223372036854775807) (h2 : b.w.length ≤ 9223372036854775807) : Sp Tryz.prog K 36 [txV a, txV b] [] fun u hh => u = .sc (.bool (tsameF a b)) ∧ hh = [] := by
  have cw := fun h => Sp.lift (weqg_s (K := K) a.w b.w h1 h2) (fun _ => rfl) (fun _ => rfl) h
  unfold tsameF
  obtain ⟨iw, ew⟩ := bool_i (weqL a.w b.w)
  rw [ew] at cw ⊢
  simp only [decide_eq_true_eq]
  clear ew h1 h2
  obtain ⟨o, s, ⟨cx, cy, cz⟩, w⟩ := a
  obtain ⟨o', s', ⟨cx', cy', cz'⟩, w'⟩ := b
  dsimp only at *
  by_cases hc : cx = cx' ∧ cy = cy' ∧ cz = cz'
  · obtain ⟨rfl, rfl, rfl⟩ := hc
    have q : (cx == cx && (cy == cy && cz == cz)) = true := by simp
    refine Sp.of_bodyE Tryz.func36 rfl ?_
    intro Q hQ
    simp only [List.replicate, List.length_cons, List.length_nil, Tryz.ntmps36, Nat.reduceAdd, Nat.reduceSub, List.cons_append, List.nil_append, go_sem]
    have hz : True := trivial
    have hy := yieldedV_eq
    have hL := @q
    repeat' (first | (refine WPV.seqK ?_; intro N hN) | refine gA ?_ | (refine gR (M := noM) ?_; intro N hN ops hy) | (refine gD (M := noM) ?_; intro N hN; have hy := yieldedV_eq) | (refine WPV.condK ?_; intro A hA B hB) | (refine here ?_; refine sS ?_) | refine Both.mk ?_ ?_ | ((with_reducible refine CallO.gd 59 ?_); refine CallO.toB Tryz.call59 (cw _) ?_) | ((with_reducible refine CallP.gd 59 ?_); refine CallP.toB Tryz.call59 (cw _) ?_) | (refine hN _ ?_; try clear hN N; try clear hy ops) | (refine hA ?_; clear hA A hB B; try simp only [hz]) | (refine hB ?_; clear hA A hB B; try simp only [hz]) | (refine gG ?_ ?_ <;> (intro hz; have h := nm hz; try (exfalso; omega)) <;> (have hz := nz hz; try subst hz)) | (rw [if_pos (show _ ∧ _ from ⟨by omega, by omega⟩)]; refine sS ?_) | refine gT ?_ | (clear hN N))
    all_goals (first | exact retZ hQ Tryz.results36 (Desc.re [] rfl) | exact retZN hQ Tryz.results36 (Desc.re [] rfl))
  · have q : (cx == cx' && (cy == cy' && cz == cz')) = false := by
      cases h : (cx == cx' && (cy == cy' && cz == cz'))
      · rfl
      · exact absurd (by simpa using h) hc
    refine Sp.of_bodyE Tryz.func36 rfl ?_
    intro Q hQ
    simp only [List.replicate, List.length_cons, List.length_nil, Tryz.ntmps36, Nat.reduceAdd, Nat.reduceSub, List.cons_append, List.nil_append, go_sem]
    have hz : True := trivial
    have hy := yieldedV_eq
    have hL := @q
    repeat' (first | (refine WPV.seqK ?_; intro N hN) | refine gA ?_ | (refine gR (M := noM) ?_; intro N hN ops hy) | (refine gD (M := noM) ?_; intro N hN; have hy := yieldedV_eq) | (refine WPV.condK ?_; intro A hA B hB) | (refine here ?_; refine sS ?_) | refine Both.mk ?_ ?_ | ((with_reducible refine CallO.gd 59 ?_); refine CallO.toB Tryz.call59 (cw _) ?_) | ((with_reducible refine CallP.gd 59 ?_); refine CallP.toB Tryz.call59 (cw _) ?_) | (refine hN _ ?_; try clear hN N; try clear hy ops) | (refine hA ?_; clear hA A hB B; try simp only [hz]) | (refine hB ?_; clear hA A hB B; try simp only [hz]) | (refine gG ?_ ?_ <;> (intro hz; have h := nm hz; try (exfalso; omega)) <;> (have hz := nz hz; try subst hz)) | (rw [if_pos (show _ ∧ _ from ⟨by omega, by omega⟩)]; refine sS ?_) | refine gT ?_ | (clear hN N))
    all_goals (first | exact retZ hQ Tryz.results36 (Desc.re [] rfl) | exact retZN hQ Tryz.results36 (Desc.re [] rfl))
end Go.Proofs.YtgfnpcmehnjopaaGreatDoor
end
