/- Parts of the proofs, joined: ScrRe, ScrR, FrmR, ScrY, ScrH, ScrB. -/
import Derived.Test.YtgfnpcmehnjopaaDoorB9
import Derived.Test.YtgfnpcmehnjopaaDoorB11
import Derived.Test.YtgfnpcmehnjopaaDoorB13
import Derived.Test.YtgfnpcmehnjopaaDoorB15
import Derived.Test.YtgfnpcmehnjopaaDoorB19
import Derived.Test.YtgfnpcmehnjopaaDoorB20
import Derived.Test.YtgfnpcmehnjopaaDoorB21
section
namespace Go.Proofs.YtgfnpcmehnjopaaDoor
open Go Go.RowKit
set_option linter.unusedVariables false
set_option linter.unusedSimpArgs false
variable {K : Nat → Obj → Prop}
end Go.Proofs.YtgfnpcmehnjopaaDoor
end
section
namespace Go.Proofs.YtgfnpcmehnjopaaDoor
open Go Go.RowKit
set_option linter.unusedVariables false
set_option linter.unusedSimpArgs false
variable {K : Nat → Obj → Prop}
end Go.Proofs.YtgfnpcmehnjopaaDoor
end
section
namespace Go.Proofs.YtgfnpcmehnjopaaDoor
open Go Go.RowKit
set_option linter.unusedVariables false
set_option linter.unusedSimpArgs false
variable {K : Nat → Obj → Prop}
def rnextF (b : List UInt8) : List UInt8 × Nat × Int :=
  if (tk b).2.2 ≠ 0 then ([], 0, (tk b).2.2) else if 8192 < (tk b).1.toNat then ([], 0, 4)
  else if b.length < (tk b).2.1 + (tk b).1.toNat + 4 then ([], 0, 2)
  else if (wrapF ((b.take ((tk b).2.1 + (tk b).1.toNat)).drop (tk b).2.1)).1 = b.take ((tk b).2.1 + (tk b).1.toNat + 4) then ((b.take ((tk b).2.1 + (tk b).1.toNat)).drop (tk b).2.1, (tk b).2.1 + (tk b).1.toNat + 4, 0) else ([], 0, 5)
end Go.Proofs.YtgfnpcmehnjopaaDoor
end
section
namespace Go.Proofs.YtgfnpcmehnjopaaDoor
open Go Go.RowKit
set_option linter.unusedVariables false
set_option linter.unusedSimpArgs false
variable {K : Nat → Obj → Prop}
end Go.Proofs.YtgfnpcmehnjopaaDoor
end
section
namespace Go.Proofs.YtgfnpcmehnjopaaDoor
open Go Go.RowKit
set_option linter.unusedVariables false
set_option linter.unusedSimpArgs false
variable {K : Nat → Obj → Prop}
theorem bflat_len {α : Type} (f : α → List UInt8) (c : Nat) : ∀ l : List α, (∀ a ∈ l, (f a).length ≤ c) → (l.flatMap f).length ≤ c * l.length
  | [], _ => by simp
  | a :: l, h => by
    have h1 := h a (by simp)
    have h2 := bflat_len f c l fun b hb => h b (by simp [hb])
    rw [List.flatMap_cons, List.length_append, List.length_cons, Nat.mul_add, Nat.mul_one]
    omega
theorem bite_len (p : Prop) [Decidable p] (l : List UInt8) (c : Nat) (h : l.length ≤ c) : (if p then l else []).length ≤ c := by
  split
  · exact h
  · simp
theorem textF_len2 {a : Wr} (h : WrOk a) : (textF a).length ≤ 340 := by
  obtain ⟨h1, h2, _⟩ := h
  have l1 := vput_len (n := a.k.size) (by omega)
  have l2 := vput_len (n := a.v.size + 1) (by omega)
  have l3 := bsz a.k
  have l4 := bsz a.v
  unfold textF
  split
  · simp only [List.length_append, List.length_cons, List.length_nil]; omega
  · simp only [List.length_append]; omega
theorem bytesI_len {x : It} (hc : checkI x = 0) (hm : ItM x) : (bytesI x).length ≤ 8000 := by
  obtain ⟨⟨d0, d1⟩, ⟨o0, o1, o2⟩, ⟨n0, n1, n2⟩, ⟨a0, a1, a2⟩, m2, hr, k2, hw, w2, kl, k3, k4⟩ := checkI_ok hc
  obtain ⟨w1, w3⟩ := wok_of hw
  have l1 := vput_len (n := x.d.toNat) (by omega)
  have l2 := bite_len (x.d < 3 ∨ x.d = 7 ∨ x.d = 8) _ 10 (vput_len (n := x.o.toNat) (by omega))
  have l3 := bite_len (3 ≤ x.d ∧ x.d ≤ 6 ∨ x.d = 8) _ 10 (vput_len (n := x.n.toNat) (by omega))
  have l4 := bite_len (x.d = 6) _ 10 (vput_len (n := x.a.toNat) (by omega))
  have l5 := bite_len (x.d = 6) _ 10 (vput_len (n := x.m.toNat) (by have := hm.2; omega))
  have l6 := bite_len (x.d = 0) (cputF ⟨0, 0, 0⟩ x.c).1 30 (by
    unfold cputF
    split
    · have z1 := zz_len (x.c.x - 0)
      have z2 := zz_len (x.c.y - 0)
      have z3 := zz_len (x.c.z - 0)
      simp only [List.length_append]; omega
    · simp)
  have l7 := bite_len (x.d = 0) _ 10 (vput_len (n := x.w.length) (by omega))
  have l8 := bite_len (x.d = 0) _ _ (bflat_len textF 340 x.w fun a ha => textF_len2 (w3 a ha))
  have l9 := bite_len (x.d = 7) _ 10 (vput_len (n := x.k.length) (by omega))
  have l10 := bite_len (x.d = 7) _ _ (bflat_len (fun n : Int => vput n.toNat) 10 x.k fun n hn => vput_len (by have := k4 n hn; omega))
  have l11 : 340 * x.w.length ≤ 340 * 16 := Nat.mul_le_mul_left _ w1
  rw [bytesI_eq]
  simp only [List.length_append, List.length_nil]
  omega
def joinR (acc : List (List UInt8)) (r : List (List UInt8) × Int) : List (List UInt8) × Int := if r.2 ≠ 0 then ([], r.2) else (acc ++ r.1, 0)
theorem rowsI_z {l : List It} (h : (rowsI l).2 ≠ 0) : (rowsI l).1 = [] := by
  cases l with
  | nil => exact absurd rfl h
  | cons x l =>
    unfold rowsI at h ⊢
    split
    · rfl
    rename_i h1
    rw [if_neg h1] at h
    split
    · rfl
    rename_i h2
    rw [if_neg h2] at h
    exact absurd rfl h
theorem joinR_nil (l : List It) : joinR [] (rowsI l) = rowsI l := by
  unfold joinR
  split
  · rename_i h
    rw [← rowsI_z h]
  · rename_i h
    have h := Decidable.not_not.1 h
    rw [List.nil_append, ← h]
theorem joinR_cons (acc : List (List UInt8)) (x : It) (l : List It) : joinR acc (rowsI (x :: l)) = if checkI x ≠ 0 then ([], checkI x) else joinR (acc ++ [bytesI x]) (rowsI l) := by
  rw [rowsI]
  by_cases h1 : checkI x ≠ 0
  · rw [if_pos h1, if_pos h1]; unfold joinR; rw [if_pos h1]
  · rw [if_neg h1, if_neg h1]
    by_cases h2 : (rowsI l).2 ≠ 0
    · rw [if_pos h2]; unfold joinR; rw [if_pos h2, if_pos h2]
    · rw [if_neg h2]; unfold joinR; rw [if_neg (by simp), if_neg h2]; simp
end Go.Proofs.YtgfnpcmehnjopaaDoor
end
section
namespace Go.Proofs.YtgfnpcmehnjopaaDoor
open Go Go.RowKit
set_option linter.unusedVariables false
set_option linter.unusedSimpArgs false
variable {K : Nat → Obj → Prop}
theorem bsz2 (k : ByteArray) : k.toList.length = k.size := by rw [ByteArray.toList_eq]; simp
set_option maxRecDepth 100000 in
set_option maxHeartbeats 1000000 in
theorem stext_s (a : Wr) (hk : a.k.size ≤ 64) (hv : a.v.size ≤ 256) (h : List Ho) : Sp Tryd.prog K 82 [wrV a] h fun u hh => u = .sl 1 (bs (textF a)) ∧ hh = h := by
  refine Sp.lift (vs := [wrV a]) ?_ (fun _ => rfl) (fun _ => rfl) h
  obtain ⟨ak, av, ag⟩ := a
  dsimp only at hk hv ⊢
  have l1 := vput_len (n := ak.size) (by omega)
  have l2 := vput_len (n := av.size + 1) (by omega)
  have l3 := bsz2 ak
  have l4 := bsz2 av
  have hv1 : ((av.size : Int) + 1).toNat = av.size + 1 := by omega
  cases ag with
  | true =>
    have e : textF ⟨ak, av, true⟩ = vput ak.size ++ ak.toList ++ [0] := rfl
    rw [e]
    refine Sp.of_bodyE Tryd.func82 rfl ?_
    intro Q hQ
    simp only [List.replicate, List.length_cons, List.length_nil, Tryd.ntmps82, Nat.reduceAdd, Nat.reduceSub, List.cons_append, List.nil_append, go_sem]
    have hz : True := trivial
    have hy := yieldedV_eq
    have hL := @hv1
    repeat' (first | (refine WPV.seqK ?_; intro N hN) | refine gA ?_ | (refine gR (M := noM) ?_; intro N hN ops hy) | (refine gD (M := noM) ?_; intro N hN; have hy := yieldedV_eq) | (refine WPV.condK ?_; intro A hA B hB) | (refine here ?_; refine sS ?_) | refine Both.mk ?_ ?_ | ((with_reducible refine CallO.gd 62 ?_); first | refine CallO.frB [] Tryd.call62 (vputO_s (m := (ak.size : Int)) (by omega) (by omega)) ?_ | refine CallO.toB Tryd.call62 (vput_s (m := (av.size : Int) + 1) (by omega) (by omega) _) ?_) | ((with_reducible refine CallP.gd 62 ?_); first | refine CallP.frB [] 1 Tryd.call62 (vputO_s (m := (ak.size : Int)) (by omega) (by omega)) ?_ | refine CallP.toB Tryd.call62 (vput_s (m := (av.size : Int) + 1) (by omega) (by omega) _) ?_) | (refine hN _ ?_; try clear hN N; try clear hy ops) | (refine hA ?_; clear hA A hB B; try simp only [hz]) | (refine hB ?_; clear hA A hB B; try simp only [hz]) | (refine gG ?_ ?_ <;> (intro hz; have h := nm hz; try (exfalso; omega)) <;> (have hz := nz hz; try subst hz)) | (rw [if_pos (show _ ∧ _ from ⟨by omega, by omega⟩)]; refine sS ?_) | refine gT ?_ | (clear hN N))
    all_goals (first | exact retZ hQ Tryd.results82 (Desc.re [] rfl) | exact retZN hQ Tryd.results82 (Desc.re [] rfl))
  | false =>
    have e : textF ⟨ak, av, false⟩ = vput ak.size ++ ak.toList ++ vput (av.size + 1) ++ av.toList := by simp [textF]
    rw [e]
    refine Sp.of_bodyE Tryd.func82 rfl ?_
    intro Q hQ
    simp only [List.replicate, List.length_cons, List.length_nil, Tryd.ntmps82, Nat.reduceAdd, Nat.reduceSub, List.cons_append, List.nil_append, go_sem]
    have hz : True := trivial
    have hy := yieldedV_eq
    have hL := @hv1
    repeat' (first | (refine WPV.seqK ?_; intro N hN) | refine gA ?_ | (refine gR (M := noM) ?_; intro N hN ops hy) | (refine gD (M := noM) ?_; intro N hN; have hy := yieldedV_eq) | (refine WPV.condK ?_; intro A hA B hB) | (refine here ?_; refine sS ?_) | refine Both.mk ?_ ?_ | ((with_reducible refine CallO.gd 62 ?_); first | refine CallO.frB [] Tryd.call62 (vputO_s (m := (ak.size : Int)) (by omega) (by omega)) ?_ | refine CallO.toB Tryd.call62 (vput_s (m := (av.size : Int) + 1) (by omega) (by omega) _) ?_) | ((with_reducible refine CallP.gd 62 ?_); first | refine CallP.frB [] 1 Tryd.call62 (vputO_s (m := (ak.size : Int)) (by omega) (by omega)) ?_ | refine CallP.toB Tryd.call62 (vput_s (m := (av.size : Int) + 1) (by omega) (by omega) _) ?_) | (refine hN _ ?_; try clear hN N; try clear hy ops) | (refine hA ?_; clear hA A hB B; try simp only [hz]) | (refine hB ?_; clear hA A hB B; try simp only [hz]) | (refine gG ?_ ?_ <;> (intro hz; have h := nm hz; try (exfalso; omega)) <;> (have hz := nz hz; try subst hz)) | (rw [if_pos (show _ ∧ _ from ⟨by omega, by omega⟩)]; refine sS ?_) | refine gT ?_ | (clear hN N))
    all_goals (first | exact retZ hQ Tryd.results82 (Desc.re [] rfl) | exact retZN hQ Tryd.results82 (Desc.re [] rfl))
def putP (p : Prop) [Decidable p] (b : List UInt8) (l : List Int) : List UInt8 := if p then b ++ l.flatMap fun n => vput n.toNat else b
set_option maxRecDepth 100000 in
set_option maxHeartbeats 1000000 in
theorem sput_s (hT : TT K) {part : Int} {p : Int → Prop} (ht : Tells part p) (x : It) (hd : 0 ≤ x.d ∧ x.d ≤ 8) [Decidable (p x.d)] (b : List UInt8) (n : Int) (hn : p x.d → 0 ≤ n ∧ n < 18446744073709551616) (hb : b.length ≤ 1000000) :
    Sp Tryd.prog K 80 [.sc (.int .i64 part), .sl 1 [[.sc (.int .u64 n)]], .ptr 0 0, .ptr 1 0] [.cells (itL x), .cells [.own 1 (bs b) 2], .tail] fun u hh =>
      u = .tup [] ∧ hh = [.cells (itL x), .cells [.own 1 (bs (putP (p x.d) b [n])) 3], .dead, .tail] := by
  have ch := fun h => hasP hT ht x hd h
  unfold putP
  by_cases hp : p x.d
  · rw [if_pos hp]
    rw [decide_eq_true hp] at ch
    have hl : ([n].flatMap fun n => vput n.toNat).length ≤ 10 := by
      have := vput_len (n := n.toNat) (by have := hn hp; omega)
      simpa using this
    have cv : ∀ h, Sp Tryd.prog K 64 [.sl 1 [[.sc (.int .u64 n)]]] h fun u hh => u = .sl 1 (bs ([n].flatMap fun n => vput n.toNat)) ∧ hh = h := fun h => vall_s (K := K) (l := [n]) (by simp) (by simpa using hn hp) h
    generalize ([n].flatMap fun n => vput n.toNat) = v at *
    clear ht hn
    generalize p x.d = pp at *
    obtain ⟨d, o, n', a, m, ⟨cx, cy, cz⟩, w, k⟩ := x
    dsimp only at ch hd ⊢
    refine Sp.of_bodyE Tryd.func80 rfl ?_
    intro Q hQ
    simp only [List.replicate, List.length_cons, List.length_nil, Tryd.ntmps80, Nat.reduceAdd, Nat.reduceSub, List.cons_append, List.nil_append, go_sem]
    have hz : True := trivial
    have hy := yieldedV_eq
    have hL := True.intro
    repeat' (first | (refine WPV.seqK ?_; intro N hN) | refine gA ?_ | (refine gR (M := noM) ?_; intro N hN ops hy) | (refine gD (M := noM) ?_; intro N hN; have hy := yieldedV_eq) | (refine WPV.condK ?_; intro A hA B hB) | (refine here ?_; refine sS ?_) | refine Both.mk ?_ ?_ | ((with_reducible refine CallO.gd 52 ?_); refine CallO.toB Tryd.call52 (ch _) ?_) | ((with_reducible refine CallO.gd 64 ?_); refine CallO.toB Tryd.call64 (cv _) ?_) | ((with_reducible refine CallP.gd 52 ?_); refine CallP.toB Tryd.call52 (ch _) ?_) | ((with_reducible refine CallP.gd 64 ?_); refine CallP.toB Tryd.call64 (cv _) ?_) | (refine hN _ ?_; try clear hN N; try clear hy ops) | (refine hA ?_; clear hA A hB B; try simp only [hz]) | (refine hB ?_; clear hA A hB B; try simp only [hz]) | (refine gG ?_ ?_ <;> (intro hz; have h := nm hz; try (exfalso; omega)) <;> (have hz := nz hz; try subst hz)) | (rw [if_pos (show _ ∧ _ from ⟨by omega, by omega⟩)]; refine sS ?_) | refine gT ?_ | (clear hN N))
    all_goals (first | exact retZ hQ Tryd.results80 (Desc.refl) | exact retZN hQ Tryd.results80 (Desc.refl))
  · rw [if_neg hp]
    rw [decide_eq_false hp] at ch
    have cv : True := trivial
    clear ht hn
    generalize p x.d = pp at *
    obtain ⟨d, o, n', a, m, ⟨cx, cy, cz⟩, w, k⟩ := x
    dsimp only at ch hd ⊢
    refine Sp.of_bodyE Tryd.func80 rfl ?_
    intro Q hQ
    simp only [List.replicate, List.length_cons, List.length_nil, Tryd.ntmps80, Nat.reduceAdd, Nat.reduceSub, List.cons_append, List.nil_append, go_sem]
    have hz : True := trivial
    have hy := yieldedV_eq
    have hL := True.intro
    repeat' (first | (refine WPV.seqK ?_; intro N hN) | refine gA ?_ | (refine gR (M := noM) ?_; intro N hN ops hy) | (refine gD (M := noM) ?_; intro N hN; have hy := yieldedV_eq) | (refine WPV.condK ?_; intro A hA B hB) | (refine here ?_; refine sS ?_) | refine Both.mk ?_ ?_ | ((with_reducible refine CallO.gd 52 ?_); refine CallO.toB Tryd.call52 (ch _) ?_) | ((with_reducible refine CallO.gd 64 ?_); refine CallO.toB Tryd.call64 (cv _) ?_) | ((with_reducible refine CallP.gd 52 ?_); refine CallP.toB Tryd.call52 (ch _) ?_) | ((with_reducible refine CallP.gd 64 ?_); refine CallP.toB Tryd.call64 (cv _) ?_) | (refine hN _ ?_; try clear hN N; try clear hy ops) | (refine hA ?_; clear hA A hB B; try simp only [hz]) | (refine hB ?_; clear hA A hB B; try simp only [hz]) | (refine gG ?_ ?_ <;> (intro hz; have h := nm hz; try (exfalso; omega)) <;> (have hz := nz hz; try subst hz)) | (rw [if_pos (show _ ∧ _ from ⟨by omega, by omega⟩)]; refine sS ?_) | refine gT ?_ | (clear hN N))
    all_goals (first | exact retZ hQ Tryd.results80 (Desc.re [some 0, some 1, none, some 2] rfl) | exact retZN hQ Tryd.results80 (Desc.re [some 0, some 1, none, some 2] rfl))
theorem textF_len {a : Wr} (h1 : a.k.size ≤ 64) (h2 : a.v.size ≤ 256) : (textF a).length ≤ 340 := by
  have l1 := vput_len (n := a.k.size) (by omega)
  have l2 := vput_len (n := a.v.size + 1) (by omega)
  have l3 := bsz2 a.k
  have l4 := bsz2 a.v
  unfold textF
  split
  · simp only [List.length_append, List.length_cons, List.length_nil]; omega
  · simp only [List.length_append]; omega
theorem putP_len (p : Prop) [Decidable p] (b : List UInt8) (n : Int) (hn : n < 18446744073709551616) : (putP p b [n]).length ≤ b.length + 10 := by
  have := vput_len (n := n.toNat) (by omega)
  unfold putP
  split
  · simp; omega
  · omega
def stepB (x : It) : List UInt8 :=
  putP (x.d = 6) (putP (x.d = 6) (putP (3 ≤ x.d ∧ x.d ≤ 6 ∨ x.d = 8) (putP (x.d < 3 ∨ x.d = 7 ∨ x.d = 8) (vput x.d.toNat) [x.o]) [x.n]) [x.a]) [x.m]
end Go.Proofs.YtgfnpcmehnjopaaDoor
end
