/- Arguments, one by one; contracts that tell a value alone. No program stands here. -/
import Derived.Test.YtonllhjmoenckaaDoorVsTy
namespace Go.Proofs.YtonllhjmoenckaaDoor
open Go Go.RowKit
set_option linter.unusedVariables false
set_option linter.unusedSimpArgs false
variable {F : Fr} {φ : List Pl} {w : World}
theorem den_tup {rs : Array Value} {vs : List V} (h : DenL F φ w rs.toList vs) : Den F φ w (.tuple rs) (.tup vs) :=
  .tup (by simpa using h.length) fun i r v hr hv => h.get i r v (by simpa using hr) hv
theorem args1 {args : Array Value} {a : V} (h : DenL F φ w args.toList [a]) : ∃ r, args = #[r] ∧ Den F φ w r a := by
  obtain ⟨l⟩ := args
  cases h with
  | cons h1 h => cases h; exact ⟨_, rfl, h1⟩
theorem args2 {args : Array Value} {a b : V} (h : DenL F φ w args.toList [a, b]) : ∃ r s, args = #[r, s] ∧ Den F φ w r a ∧ Den F φ w s b := by
  obtain ⟨l⟩ := args
  cases h with
  | cons h1 h =>
    cases h with
    | cons h2 h => cases h; exact ⟨_, _, rfl, h1, h2⟩
theorem args3 {args : Array Value} {a b c : V} (h : DenL F φ w args.toList [a, b, c]) : ∃ r s t, args = #[r, s, t] ∧ Den F φ w r a ∧ Den F φ w s b ∧ Den F φ w t c := by
  obtain ⟨l⟩ := args
  cases h with
  | cons h1 h =>
    cases h with
    | cons h2 h => cases h with
      | cons h3 h => cases h; exact ⟨_, _, _, rfl, h1, h2, h3⟩
theorem args0 {args : Array Value} (h : DenL F φ w args.toList []) : args = #[] := by
  obtain ⟨l⟩ := args
  cases h; rfl
theorem den_in {r : Value} {x : D} (h : Den F φ w r (.d x)) : DenD F φ w r x := by cases h; assumption

/-- A call whose contract tells its value alone. -/
theorem Sp.to {P : Program} {K : Nat → Obj → Prop} {f : FuncId} {vs : List V} {h : List Ho} {v : V} {R : V → List Ho → Prop} (hs : Sp P K f vs h fun u hh => u = v ∧ hh = h) (hr : R v h) : Sp P K f vs h R :=
  hs.mono fun u hh ⟨e1, e2⟩ => by rw [e1, e2]; exact hr
/-- The same, its value told by an equation. -/
theorem Sp.eq {P : Program} {K : Nat → Obj → Prop} {f : FuncId} {vs : List V} {h : List Ho} {v v' : V} (hs : Sp P K f vs h fun u hh => u = v ∧ hh = h) (e : v = v') : Sp P K f vs h fun u hh => u = v' ∧ hh = h := by rw [← e]; exact hs
/-- Numbers without a sign as words. -/
theorem w_of {m : Int} (h0 : 0 ≤ m) (h1 : m < 18446744073709551616) : ∃ n : UInt64, m = W n ∧ n.toNat = m.toNat := by
  have e : (UInt64.ofNat m.toNat).toNat = m.toNat := by
    rw [UInt64.toNat_ofNat']; omega
  exact ⟨UInt64.ofNat m.toNat, by unfold W; rw [e]; omega, e⟩
theorem u_of {m : Int} (h0 : 0 ≤ m) (h1 : m < 4294967296) : ∃ n : UInt32, m = U n ∧ n.toNat = m.toNat := by
  have e : (UInt32.ofNat m.toNat).toNat = m.toNat := by
    rw [UInt32.toNat_ofNat']; omega
  exact ⟨UInt32.ofNat m.toNat, by unfold U; rw [e]; omega, e⟩
end Go.Proofs.YtonllhjmoenckaaDoor
