/- The numbers' bytes, told by values. -/
import Derived.Test.YtonllhjmoenckaaVsQ
import Derived.Test.YtonllhjmoenckaaVintR
import Derived.Test.YtonllhjmoenckaaVsB1
namespace Go.Proofs.Ytonllhjmoenckaa
open Go Go.RowKit
set_option linter.unusedVariables false
set_option linter.unusedSimpArgs false
variable {K : Nat → Obj → Prop}

theorem vput_s {m : Int} (h0 : 0 ≤ m) (h1 : m < 18446744073709551616) (h : List Ho) : Sp Try.prog K 80 [.sc (.int .u64 m)] h fun u hh => u = .sl 1 (bs (vput m.toNat)) ∧ hh = h :=
  .ofB fun F φ w args hd => by
    obtain ⟨r, rfl, h3⟩ := args1 hd
    obtain ⟨n, e1, e2⟩ := w_of h0 h1
    rw [h3.sc.1, e1, W_nat]; exact Put_c n w
theorem vrput_s {m : Int} (h0 : 0 ≤ m) (h1 : m < 18446744073709551616) (h : List Ho) : Sp Try.prog K 83 [.sc (.int .u64 m)] h fun u hh => u = .sl 1 (bs (vput m.toNat)) ∧ hh = h :=
  .ofB fun F φ w args hd => by
    obtain ⟨r, rfl, h3⟩ := args1 hd
    obtain ⟨n, e1, e2⟩ := w_of h0 h1
    rw [h3.sc.1, e1, W_nat]; exact rput_c n w
theorem vsize_s {m : Int} (h0 : 0 ≤ m) (h1 : m < 18446744073709551616) (h : List Ho) : Sp Try.prog K 105 [.sc (.int .u64 m)] h fun u hh => u = .sc (.int .i64 ((vput m.toNat).length : Int)) ∧ hh = h :=
  .ofV (fun F φ w => .d (.sc rfl)) fun F φ w args hd => by
    obtain ⟨r, rfl, h3⟩ := args1 hd
    obtain ⟨n, e1, e2⟩ := w_of h0 h1
    rw [h3.sc.1, e1, W_nat]; exact size_c n w
theorem vtake_s {s : List UInt8} {u : UInt64} {n : Nat} {er : Int} (ht : tk s = (u, n, er)) (hl : s.length ≤ 1000000000) (h : List Ho) : Sp Try.prog K 85 [.sl 1 (bs s)] h fun v hh => v = .tup [.sc (.int .u64 u.toNat), .sc (.int .i64 n), .sc (.int .i64 er)] ∧ hh = h :=
  .ofV (r := tkV (tk s)) (fun F φ w => by rw [ht]; exact den_tup (.cons (.d (.sc rfl)) (.cons (.d (.sc rfl)) (.cons (.d (.sc rfl)) .nil)))) fun F φ w args hd => by
    obtain ⟨r, rfl, h3⟩ := args1 hd
    exact take_c r s w (den_in h3).sb hl
theorem vrtake_s {s : List UInt8} {u : UInt64} {n : Nat} {er : Int} (ht : tk s = (u, n, er)) (hl : s.length ≤ 1000000000) (h : List Ho) : Sp Try.prog K 86 [.sl 1 (bs s)] h fun v hh => v = .tup [.sc (.int .u64 u.toNat), .sc (.int .i64 n), .sc (.int .i64 er)] ∧ hh = h :=
  .ofV (r := tkV (tk s)) (fun F φ w => by rw [ht]; exact den_tup (.cons (.d (.sc rfl)) (.cons (.d (.sc rfl)) (.cons (.d (.sc rfl)) .nil)))) fun F φ w args hd => by
    obtain ⟨r, rfl, h3⟩ := args1 hd
    exact rtake_c r s w (den_in h3).sb hl
/-- Numbers as a slice's list. -/
def ws (l : List Int) : List (List D) := l.map fun n => [.sc (.int .u64 n)]
theorem DenD.sw {F : Fr} {φ : List Pl} {w : World} {r : Value} {l : List UInt64} (h : DenD F φ w r (.sl 1 (ws (l.map W)))) : Sw w r l := by
  have wl : (ws (l.map W)).length = l.length := by simp [ws]
  rcases h.slInv with ⟨a0, rfl, e⟩ | ⟨cap, b, off, c, rfl, hcap, hk, hc, hd⟩
  · have : l = [] := by cases l with
      | nil => rfl
      | cons a l => simp [ws] at e
    subst this
    exact ⟨a0, 0, rfl, Nat.le_refl _, Nat.zero_le _, rfl, fun h => absurd h (Nat.lt_irrefl _)⟩
  · rw [wl] at hcap ⊢
    refine ⟨some ⟨b, off, none⟩, cap, rfl, hcap.1, hcap.2, by simp, fun h0 => ⟨_, rfl, ?_, fun j u hu => ?_⟩⟩
    · have := (hc 0 0 (by rw [wl]; exact h0) (by omega)).1
      exact this.1
    · obtain ⟨y, hy, rfl⟩ : ∃ y, l[j]? = some y ∧ wv y = u := by simpa using hu
      have hlt := get_lt hy
      have h1 := (hc j 0 (by rw [wl]; exact hlt) (by omega)).2
      have h2 := hd j [.sc (.int .u64 (W y))] 0 _ (by simp [ws, hy]) rfl
      generalize c j 0 = q at h1 h2
      have h3 : q = .int .u64 (W y) := by cases h2; rfl
      subst h3
      rw [add_addr]
      simpa [wv] using h1
theorem ws_of : ∀ {l : List Int}, (∀ n ∈ l, 0 ≤ n ∧ n < 18446744073709551616) → ∃ m : List UInt64, l = m.map W ∧ vall m = l.flatMap fun n => vput n.toNat
  | [], _ => ⟨[], rfl, rfl⟩
  | n :: l, h => by
    obtain ⟨m, e1, e2⟩ := ws_of (l := l) fun n hn => h n (by simp [hn])
    obtain ⟨u, e3, e4⟩ := w_of (h n (by simp)).1 (h n (by simp)).2
    exact ⟨u :: m, by simp [e1, e3], by simp [vall, List.flatMap_cons, e4] at e2 ⊢; exact e2⟩
theorem vall_s {l : List Int} (hl : l.length ≤ 1000000) (hb : ∀ n ∈ l, 0 ≤ n ∧ n < 18446744073709551616) (h : List Ho) : Sp Try.prog K 82 [.sl 1 (ws l)] h fun u hh => u = .sl 1 (bs (l.flatMap fun n => vput n.toNat)) ∧ hh = h :=
  .ofB fun F φ w args hd => by
    obtain ⟨r, rfl, h3⟩ := args1 hd
    obtain ⟨m, e1, e2⟩ := ws_of hb
    rw [e1] at h3
    rw [← e2]
    exact all_c r m w (den_in h3).sw (by rw [e1] at hl; simpa using hl)
theorem vall2_s {a b : Int} (h1 : 0 ≤ a ∧ a < 18446744073709551616) (h2 : 0 ≤ b ∧ b < 18446744073709551616) (h : List Ho) : Sp Try.prog K 82 [.sl 1 [[.sc (.int .u64 a)], [.sc (.int .u64 b)]]] h fun u hh => u = .sl 1 (bs (vput a.toNat ++ vput b.toNat)) ∧ hh = h := by
  have := vall_s (K := K) (l := [a, b]) (by simp) (by simp; exact ⟨h1, h2⟩) h
  simpa [ws] using this
/-! The same, with the right to append. -/
theorem vputO_s {m : Int} (h0 : 0 ≤ m) (h1 : m < 18446744073709551616) : Sp Try.prog K 80 [.sc (.int .u64 m)] [] fun u hh => u = .own 1 (bs (vput m.toNat)) 0 ∧ hh = [.tail] :=
  .ofBO fun F φ w args hd => by
    obtain ⟨r, rfl, h3⟩ := args1 hd
    obtain ⟨n, e1, e2⟩ := w_of h0 h1
    rw [h3.sc.1, e1, W_nat]; exact Put_c n w
theorem vrputO_s {m : Int} (h0 : 0 ≤ m) (h1 : m < 18446744073709551616) : Sp Try.prog K 83 [.sc (.int .u64 m)] [] fun u hh => u = .own 1 (bs (vput m.toNat)) 0 ∧ hh = [.tail] :=
  .ofBO fun F φ w args hd => by
    obtain ⟨r, rfl, h3⟩ := args1 hd
    obtain ⟨n, e1, e2⟩ := w_of h0 h1
    rw [h3.sc.1, e1, W_nat]; exact rput_c n w
theorem vallO_s {l : List Int} (hl : l.length ≤ 1000000) (hb : ∀ n ∈ l, 0 ≤ n ∧ n < 18446744073709551616) : Sp Try.prog K 82 [.sl 1 (ws l)] [] fun u hh => u = .own 1 (bs (l.flatMap fun n => vput n.toNat)) 0 ∧ hh = [.tail] :=
  .ofBO fun F φ w args hd => by
    obtain ⟨r, rfl, h3⟩ := args1 hd
    obtain ⟨m, e1, e2⟩ := ws_of hb
    rw [e1] at h3
    rw [← e2]
    exact all_c r m w (den_in h3).sw (by rw [e1] at hl; simpa using hl)
theorem vall2O_s {a b : Int} (h1 : 0 ≤ a ∧ a < 18446744073709551616) (h2 : 0 ≤ b ∧ b < 18446744073709551616) : Sp Try.prog K 82 [.sl 1 [[.sc (.int .u64 a)], [.sc (.int .u64 b)]]] [] fun u hh => u = .own 1 (bs (vput a.toNat ++ vput b.toNat)) 0 ∧ hh = [.tail] := by
  have := vallO_s (K := K) (l := [a, b]) (by simp) (by simp; exact ⟨h1, h2⟩)
  simpa [ws] using this
end Go.Proofs.Ytonllhjmoenckaa
