/- Walks: a coder's Put, Take, Clock by what they tell; what awake's calls tell. -/
import Derived.Test.YtonllhjmoenckaaTxnV
import Derived.Test.YtonllhjmoenckaaTxnG
namespace Go.Proofs.Ytonllhjmoenckaa
open Go Go.RowKit
set_option linter.unusedVariables false
set_option linter.unusedSimpArgs false
variable {K : Nat → Obj → Prop}
--V4
theorem cput_e {x y : Cod Di} {t : Tx} {b : List UInt8} {e : Int} (h : tputF dpF x t = ((b, e), y)) (ok : x.d.Ok) (hl : t.w.length ≤ 9223372036854775807) : Sp Try.prog K 49 [.ptr 0 0, txV t] x.inn fun u hh => u = .tup [.sl 1 (bs b), .sc (.int .i64 e)] ∧ hh = y.out := by
  have := cput_x (K := K) x t ok hl
  rwa [h] at this
theorem ctake_e {x y : Cod Di} {t : Tx} {b : List UInt8} {n : Nat} {e : Int} (h : ttakeF dtF x b = ((t, n, e), y)) (ok : x.d.Ok) (hl : b.length ≤ 1000000) : Sp Try.prog K 51 [.ptr 0 0, .sl 1 (bs b)] x.inn fun u hh => u = ttV (t, n, e) ∧ hh = y.tout := by
  have := ctake_x (K := K) x b ok hl
  rwa [h] at this
theorem cclock_e {x : Cod Di} {c : Clk} (h : x.c = c) : Sp Try.prog K 53 [.ptr 0 0] x.inn fun u hh => u = clkV c ∧ hh = x.inn := by
  have := cclock_s (K := K) x
  rwa [h] at this
theorem tput_ok {x : Cod Di} (ok : x.d.Ok) (t : Tx) : (tputF dpF x t).2.d.Ok := by
  unfold tputF
  split
  · exact ok
  · exact wput_ok t.w ok
theorem tput_r {x : Cod Di} (hr : rightF x.c = true) (t : Tx) : rightF (tputF dpF x t).2.c = true := by
  unfold tputF
  split
  · exact hr
  · rename_i h; exact (check_ok (Decidable.not_not.1 h)).2.2.1
theorem wput_len : ∀ (w : List Wr) (d : Di), d.Ok → (∀ a ∈ w, a.v.size ≤ 256) → (wputF dpF d w).1.length ≤ 1000 * w.length
  | [], d, _, _ => by simp [wputF]
  | a :: w, d, ok, h => by
    have ih := wput_len w (d.put a.k).2 (ok.put a.k) (fun x hx => h x (by simp [hx]))
    have l1 := put_len ok a.k
    have hv := h a (by simp)
    have l2 : a.val.length ≤ 300 := by
      unfold Wr.val
      split
      · simp
      · have := vput_len (n := a.v.size + 1) (by omega)
        simp only [List.length_append, size_toList]; omega
    rw [wputF_cons]
    dsimp only [dpF]
    simp only [List.length_append, List.length_cons]; omega
def oneT : Tx := ⟨1, 1, ⟨0, 0, 0⟩, [⟨⟨#[97]⟩, ⟨#[120]⟩, false⟩]⟩
def twoT : Tx := ⟨1, 2, ⟨0, 1, 0⟩, [⟨⟨#[97]⟩, ⟨#[]⟩, true⟩]⟩
/-- With an error a coder is as it was. -/
theorem ite_err {α : Type} {E e : Int} {x y : α} {t : Tx} {n : Nat} (h : (if E ≠ 0 then ((Tx.zero, 0, E), x) else ((t, n, 0), y)).1.2.2 = e) (he : e ≠ 0) : (if E ≠ 0 then ((Tx.zero, 0, E), x) else ((t, n, 0), y)) = ((Tx.zero, 0, e), x) := by
  by_cases hE : E ≠ 0
  · rw [if_pos hE] at h ⊢
    dsimp only at h
    rw [h]
  · rw [if_neg hE] at h
    exact absurd h.symm he
theorem ttake_err {x : Cod Di} {b : List UInt8} {e : Int} (h : (ttakeF dtF x b).1.2.2 = e) (he : e ≠ 0) : ttakeF dtF x b = ((Tx.zero, 0, e), x) := ite_err h he
theorem vsame_t (l : List UInt8) (h : List Ho) : Sp Try.prog K 37 [.sl 1 (bs l), .sl 1 (bs l)] h fun u hh => u = .sc (.bool true) ∧ hh = h := by
  simpa using vsame_s (K := K) l l h
structure AwF (x0 x1 x2 x3 : Cod Di) (A B b3 : List UInt8) : Prop where
  o0 : x0.d.Ok
  o1 : x1.d.Ok
  o2 : x2.d.Ok
  o3 : x3.d.Ok
  e0 : x0 = Cod.new
  eA : A = [1, 1, 0, 0, 0, 1, 0, 1, 97, 2, 120]
  eB : B = [1, 2, 0, 2, 0, 1, 1, 0]
  p1 : tputF dpF x0 oneT = ((A, 0), x1)
  p2 : tputF dpF x1 twoT = ((B, 0), x2)
  p3 : tputF dpF x2 oneT = ((b3, 0), x3)
  t1 : ttakeF dtF x0 (A ++ [UInt8.ofNat 9]) = ((oneT, 11, 0), x1)
  t2 : ttakeF dtF x1 [1, 2, 0, 2, 0, 1, 1] = ((Tx.zero, 0, 2), x1)
  t3 : ttakeF dtF x1 B = ((twoT, 8, 0), x2)
  t4 : ttakeF dtF x2 [3, 1, 0, 1, 0, 0] = ((Tx.zero, 0, 9), x2)
  c2 : x2.c = ⟨0, 1, 0⟩
theorem awake_facts : ∃ (x0 x1 x2 x3 : Cod Di) (A B b3 : List UInt8), AwF x0 x1 x2 x3 A B b3 := by
  have o0 : Cod.new.d.Ok := .nw
  have r0 : rightF Cod.new.c = true := by decide
  have h1 : (tputF dpF Cod.new oneT).1 = ([1, 1, 0, 0, 0, 1, 0, 1, 97, 2, 120], 0) := by decide +kernel
  have h2 : (tputF dpF (tputF dpF Cod.new oneT).2 twoT).1 = ([1, 2, 0, 2, 0, 1, 1, 0], 0) := by decide +kernel
  have h3 : (tputF dpF (tputF dpF (tputF dpF Cod.new oneT).2 twoT).2 oneT).1.2 = 0 := by decide +kernel
  have t1 := take_put_t o0 r0 (t := oneT) (by decide +kernel) [9]
  have t3 := take_put_t (tput_ok o0 oneT) (tput_r r0 oneT) (t := twoT) (by decide +kernel) []
  have t2 := ttake_err (x := (tputF dpF Cod.new oneT).2) (b := [1, 2, 0, 2, 0, 1, 1]) (e := 2) (by decide +kernel) (by decide)
  have t4 := ttake_err (x := (tputF dpF (tputF dpF Cod.new oneT).2 twoT).2) (b := [3, 1, 0, 1, 0, 0]) (e := 9) (by decide +kernel) (by decide)
  have c2 : (tputF dpF (tputF dpF Cod.new oneT).2 twoT).2.c = ⟨0, 1, 0⟩ := by decide +kernel
  rw [h1] at t1
  rw [h2] at t3
  exact ⟨Cod.new, (tputF dpF Cod.new oneT).2, (tputF dpF (tputF dpF Cod.new oneT).2 twoT).2, (tputF dpF (tputF dpF (tputF dpF Cod.new oneT).2 twoT).2 oneT).2, _, _, (tputF dpF (tputF dpF (tputF dpF Cod.new oneT).2 twoT).2 oneT).1.1,
    ⟨o0, tput_ok o0 oneT, tput_ok (tput_ok o0 oneT) twoT, tput_ok (tput_ok (tput_ok o0 oneT) twoT) oneT, rfl, rfl, rfl, Prod.ext h1 rfl, Prod.ext h2 rfl, Prod.ext (Prod.ext rfl h3) rfl, t1, t2, t3, t4, c2⟩⟩
end Go.Proofs.Ytonllhjmoenckaa
