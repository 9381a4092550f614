/- Copies of bytes, bytes held against bytes, bursts: told by values. -/
import Derived.Test.YtonllhjmoenckaaNetF
import Derived.Test.YtonllhjmoenckaaTurnB
import Derived.Test.YtonllhjmoenckaaVsX
namespace Go.Proofs.Ytonllhjmoenckaa
open Go Go.RowKit
set_option linter.unusedVariables false
set_option linter.unusedSimpArgs false
variable {K : Nat → Obj → Prop}

theorem bclone_s (l : List UInt8) (hl : l.length ≤ 1000000000) (h : List Ho) : Sp Try.prog K 103 [.sl 1 (bs l)] h fun u hh => u = .sl 1 (bs l) ∧ hh = h :=
  .ofB fun F φ w args hd => by
    obtain ⟨r, rfl, h1⟩ := args1 hd
    exact clone_c r l w (den_in h1).sb (by omega)
theorem beq_s (l m : List UInt8) (h : List Ho) : Sp Try.prog K 78 [.sl 1 (bs l), .sl 1 (bs m)] h fun u hh => u = .sc (.bool (decide (l = m))) ∧ hh = h :=
  .ofV (fun F φ w => .d (.sc rfl)) fun F φ w args hd => by
    obtain ⟨r, q, rfl, h1, h2⟩ := args2 hd
    exact equal_c r q l m w (den_in h1).sb (den_in h2).sb
theorem turn_s (l : List UInt8) (at_ : Int) (m : UInt32) (hl : l.length ≤ 1000000000) (ha : -9223372036854775808 ≤ at_) (hb : at_ ≤ 9223372036854775807) (h : List Ho) : Sp Try.prog K 77 [.sl 1 (bs l), .sc (.int .i64 at_), .sc (.int .u32 (U m))] h fun u hh => u = .sl 1 (bs (turnF at_ m l)) ∧ hh = h :=
  .ofB fun F φ w args hd => by
    obtain ⟨r, s, t, rfl, h1, h2, h3⟩ := args3 hd
    rw [h2.sc.1, h3.sc.1]
    exact turn_c r l at_ m w (den_in h1).sb hl ha hb
theorem rturn_s (l : List UInt8) (at_ : Int) (m : UInt32) (hl : l.length ≤ 1000000000) (ha : -9223372036854775808 ≤ at_) (hb : at_ ≤ 9223372036854775807) (h : List Ho) : Sp Try.prog K 31 [.sl 1 (bs l), .sc (.int .i64 at_), .sc (.int .u32 (U m))] h fun u hh => u = .sl 1 (bs (turnF at_ m l)) ∧ hh = h :=
  .ofB fun F φ w args hd => by
    obtain ⟨r, s, t, rfl, h1, h2, h3⟩ := args3 hd
    rw [h2.sc.1, h3.sc.1]
    exact rturn_c r l at_ m w (den_in h1).sb hl ha hb
theorem turnF_len (at_ : Int) (m : UInt32) (l : List UInt8) : (turnF at_ m l).length = l.length := turnN_len at_ m l 32

/-- The runner's own bursts. -/
def turnX : Runner := fun f vs h => if f = 77 then match vs with
  | [v, .d (.sc (.int .i64 a)), .d (.sc (.int .u32 m))] => match toD v with
    | some (.sl 1 es) => match unbs es with
      | some l => if l.length ≤ 1000000000 ∧ -9223372036854775808 ≤ a ∧ a ≤ 9223372036854775807 ∧ U (UInt32.ofNat m.toNat) = m then some (.sl 1 (bs (turnF a (UInt32.ofNat m.toNat) l)), h) else none
      | none => none
    | _ => none
  | _ => none else none
theorem Wk.toD {v : V} {x : D} {vs vs' : List V} (e : toD v = some x) (h : Wk vs vs') : Wk (v :: vs) (.d x :: vs') := by
  cases v <;> simp only [Proofs.Ytonllhjmoenckaa.toD, Option.some.injEq, reduceCtorEq] at e
  · subst e; exact .same h
  · subst e; exact .own h
  · subst e; exact .full h
theorem turnX_ok : Right Try.prog K turnX := fun f vs h v h' hx => by
  unfold turnX at hx
  split at hx
  · rename_i hf
    subst hf
    split at hx
    · rename_i v0 a m
      split at hx
      · rename_i es he
        split at hx
        · rename_i l hl
          split at hx
          · rename_i hc
            obtain ⟨h1, h2, h3, h4⟩ := hc
            cases hx
            have hb := unbs_bs hl
            subst hb
            have hs := turn_s (K := K) l a (UInt32.ofNat m.toNat) h1 h2 h3 h
            rw [h4] at hs
            exact ⟨Try.call77, hs.wk (Wk.toD he Wk.refl)⟩
          · cases hx
        · cases hx
      · cases hx
    · cases hx
  · cases hx
end Go.Proofs.Ytonllhjmoenckaa
