/- The clock's functions, told by values: contracts that were walked by hand. -/
import Derived.Test.YtfcbpdokilidgaaVsTy
import Derived.Test.YtfcbpdokilidgaaVsW
import Derived.Test.YtfcbpdokilidgaaClkA
import Derived.Test.YtfcbpdokilidgaaClkG
import Derived.Test.YtfcbpdokilidgaaSame
namespace Go.Proofs.Ytfcbpdokilidgaa
open Go Go.RowKit
set_option linter.unusedVariables false
set_option linter.unusedSimpArgs false
abbrev K0 : Nat → Obj → Prop := fun _ _ => False
theorem loopV {P : Program} {K : Nat → Obj → Prop} {x : Code} {Q : Exit → Sv → Prop} {st : Sv} (h : WPV P K x (thenV (WPV P K (.loop x) Q) Q) st) : WPV P K (.loop x) Q st := .loop h
abbrev clkV (c : Clk) : V := .agg [.sc (.int .i64 c.x), .sc (.int .i64 c.y), .sc (.int .i64 c.z)]
variable {F : Fr} {φ : List Pl} {w : World}
theorem den_clk (c : Clk) : Den F φ w (cv c) (clkV c) := by
  refine .agg rfl (fun i r h => ?_) fun i r v hr hv => ?_
  · match i, h with
    | 0, h => simp at h; subst h; rfl
    | 1, h => simp at h; subst h; rfl
    | 2, h => simp at h; subst h; rfl
  · match i, hr, hv with
    | 0, hr, hv => simp at hr hv; subst hr hv; exact .d (.sc rfl)
    | 1, hr, hv => simp at hr hv; subst hr hv; exact .d (.sc rfl)
    | 2, hr, hv => simp at hr hv; subst hr hv; exact .d (.sc rfl)
theorem clk_of {r : Value} {c : Clk} (h : Den F φ w r (clkV c)) : r = cv c := by
  obtain ⟨rs, rfl, hs, _, h⟩ := h.aggInv
  obtain ⟨l⟩ := rs
  match l, hs with
  | [a, b, d], _ =>
    have h0 := (h 0 a _ rfl rfl).sc.1
    have h1 := (h 1 b _ rfl rfl).sc.1
    have h2 := (h 2 d _ rfl rfl).sc.1
    subst h0 h1 h2
    rfl
theorem den_tup {rs : Array Value} {vs : List V} (h : DenL F φ w rs.toList vs) : Den F φ w (.tuple rs) (.tup vs) :=
  .tup (by simpa using h.length) fun i r v hr hv => h.get i r v (by simpa using hr) hv
theorem args1 {args : Array Value} {a : V} (h : DenL F φ w args.toList [a]) : ∃ r, args = #[r] ∧ Den F φ w r a := by
  obtain ⟨l⟩ := args
  cases h with
  | cons h1 h => cases h; exact ⟨_, rfl, h1⟩
theorem args2 {args : Array Value} {a b : V} (h : DenL F φ w args.toList [a, b]) : ∃ r s, args = #[r, s] ∧ Den F φ w r a ∧ Den F φ w s b := by
  obtain ⟨l⟩ := args
  cases h with
  | cons h1 h =>
    cases h with
    | cons h2 h => cases h; exact ⟨_, _, rfl, h1, h2⟩
theorem args0 {args : Array Value} (h : DenL F φ w args.toList []) : args = #[] := by
  obtain ⟨l⟩ := args
  cases h; rfl
theorem den_in {r : Value} {x : D} (h : Den F φ w r (.d x)) : DenD F φ w r x := by cases h; assumption

/-- A call whose contract tells its value alone. -/
theorem Sp.to {P : Program} {K : Nat → Obj → Prop} {f : FuncId} {vs : List V} {h : List Ho} {v : V} {R : V → List Ho → Prop} (hs : Sp P K f vs h fun u hh => u = v ∧ hh = h) (hr : R v h) : Sp P K f vs h R :=
  hs.mono fun u hh ⟨e1, e2⟩ => by rw [e1, e2]; exact hr
--theorem CallD.to {P : Program} {K : Nat → Obj → Prop} {f : FuncId} {vs : List V} {h : List Ho} {v : V} {C : V → List Nat → List Ho → Nat → Prop} (hs : Sp P K f vs [] fun u hh => u = v ∧ hh = []) (h1 : ∀ g, vs.map (renV g) = vs) (h2 : ∀ g, renV g v = v) (hr : C v [] [] 0) : CallD P K f vs h C :=
--  ⟨[], vs, [], [], v, 0, by simp [frs], rfl, rfl, hs, by simp, fun B i j o hi => by simp at hi, fun B F φ w rs hd => by rw [h1]; exact hd, by rw [h2]; exact hr⟩

theorem right_s (c : Clk) (h : List Ho) : Sp Try.prog K0 38 [clkV c] h fun u hh => u = .sc (.bool (rightF c)) ∧ hh = h :=
  .ofV (fun F φ w => .d (.sc rfl)) fun F φ w args hd => by
    obtain ⟨r, rfl, h1⟩ := args1 hd
    rw [clk_of h1]; exact right_c c w
theorem take_s {p t : Clk} {s : List UInt8} {n : Nat} {er : Int} (ht : ctakeF p s = (t, n, er)) (hl : s.length ≤ 1000000000) (h : List Ho) : Sp Try.prog K0 34 [clkV p, .sl 1 (bs s)] h fun u hh => u = .tup [clkV t, .sc (.int .i64 n), .sc (.int .i64 er)] ∧ hh = h :=
  .ofV (r := ctV (ctakeF p s)) (fun F φ w => by rw [ht]; exact den_tup (.cons (den_clk t) (.cons (.d (.sc rfl)) (.cons (.d (.sc rfl)) .nil)))) fun F φ w args hd => by
    obtain ⟨r, q, rfl, h1, h2⟩ := args2 hd
    rw [clk_of h1]; exact ctake_c p q s w (den_in h2).sb hl
theorem put_s {p c : Clk} {l : List UInt8} {n : Int} (ht : cputF p c = (l, n)) (h : List Ho) : Sp Try.prog K0 32 [clkV p, clkV c] h fun u hh => u = .tup [.sl 1 (bs l), .sc (.int .i64 n)] ∧ hh = h :=
  .ofBE fun F φ w args hd => by
    obtain ⟨r, q, rfl, h1, h2⟩ := args2 hd
    rw [clk_of h1, clk_of h2]
    have := cput_c p c w
    rw [ht] at this; exact this
theorem awake_s (h : List Ho) : Sp Try.prog K0 29 [] h fun u hh => u = .sc (.bool true) ∧ hh = h :=
  .ofV (fun F φ w => .d (.sc rfl)) fun F φ w args hd => by
    rw [args0 hd]; exact awake04_c w
theorem same_s (l m : List UInt8) (h : List Ho) : Sp Try.prog K0 37 [.sl 1 (bs l), .sl 1 (bs m)] h fun u hh => u = .sc (.bool (decide (l = m))) ∧ hh = h :=
  .ofV (fun F φ w => .d (.sc rfl)) fun F φ w args hd => by
    obtain ⟨r, q, rfl, h1, h2⟩ := args2 hd
    exact same_c r q l m w (den_in h1).sb (den_in h2).sb
end Go.Proofs.Ytfcbpdokilidgaa
