/- Functions of data alone: what they make is forgotten. No program stands here. -/
import Derived.Test.YtfcbpdokilidgaaVsW
namespace Go.Proofs.Ytfcbpdokilidgaa
open Go Go.RowKit
set_option linter.unusedVariables false
set_option linter.unusedSimpArgs false
variable {F : Fr} {P : Program} {K : Nat → Obj → Prop}

theorem Wk.tup {vs vs' : List V} (h : Wk vs vs') : Wk [.tup vs] [.tup vs'] := fun F φ w rs hd => by
  cases hd with
  | cons h1 h2 =>
    cases h2
    obtain ⟨us, rfl, hs, hg⟩ := h1.tupInv
    have := h F φ w us.toList (.of_get (by simpa using hs) fun i r v hr hv => hg i r v (by simpa using hr) hv)
    exact .cons (.tup (by simpa using this.length) fun i r v hr hv => this.get i r v (by simpa using hr) hv) .nil
theorem Wk.one {v v' : V} (h : Wk [v] [v']) {F : Fr} {φ : List Pl} {w : World} {r : Value} (hd : Den F φ w r v) : Den F φ w r v' := by
  cases h F φ w [r] (.cons hd .nil) with
  | cons h1 _ => exact h1

/-- What a function of data makes is forgotten. -/
theorem Sp.data {f : FuncId} {vs : List V} {R : V → List Ho → Prop} {v' : V} (hs : Sp P K f vs [] R) (h1 : ∀ g, renV g v' = v') (hR : ∀ v h, R v h → Wk [v] [v']) : Sp P K f vs [] fun u hh => u = v' ∧ hh = [] := by
  intro F φ w args hK hi hd
  have e : φ = [] := List.eq_nil_of_length_eq_zero (by have := hi.len; simpa using this)
  subst e
  refine (hs F [] w args hK hi hd).mono ?_
  rintro e w' ⟨u, φ', v, h', rfl, he, hi', hd', hr⟩
  refine ⟨u, [], v', [], rfl, ⟨he.size, Nat.le_refl _, fun i hx => .inl rfl, he.keep, fun i b e hb => by simp at hb, fun i b hb => by simp at hb, fun i b e hb => by simp at hb, he.io⟩, ?_, ?_, rfl, rfl⟩
  · exact ⟨rfl, fun i p o hp => by simp at hp, fun i j p q b hp => by simp at hp, hi'.frB, fun i p b o hp => by simp at hp, fun b x hx => ⟨(hi'.frK b x hx).1, fun i p hp => by simp at hp⟩⟩
  · exact ((hR v h' hr).one hd').down (g := fun _ => φ'.length) (fun b o ⟨a1, a2, a3, a4⟩ => ⟨a1, fun i hi' => by simp at hi', fun i e hi' => by simp at hi', a4⟩) (fun i ⟨p, hp, _⟩ => absurd (get_lt hp) (Nat.lt_irrefl _)) v' (h1 _).symm

/-- It serves wherever. -/
theorem Sp.lift {f : FuncId} {vs : List V} {v : V} (hs : Sp P K f vs [] fun u hh => u = v ∧ hh = []) (h1 : ∀ g, vs.map (renV g) = vs) (h2 : ∀ g, renV g v = v) (h : List Ho) : Sp P K f vs h fun u hh => u = v ∧ hh = h :=
  hs.frame [] (by simp) rfl (fun i j o hi => by simp at hi) (by simp) (fun F φ w rs hd => by rw [h1]; exact hd) fun u hh ⟨e1, e2⟩ => by
    rw [e1, e2, h2]; exact ⟨rfl, by simp [mergeH, setAll]⟩
theorem Sp.pure_ {f : FuncId} {vs : List V} {R : V → List Ho → Prop} {v' : V} (hs : Sp P K f vs [] R) (h1 : ∀ g, vs.map (renV g) = vs) (h2 : ∀ g, renV g v' = v') (hR : ∀ v h, R v h → Wk [v] [v']) (h : List Ho) : Sp P K f vs h fun u hh => u = v' ∧ hh = h :=
  (hs.data h2 hR).lift h1 h2 h

theorem Sp.ofB {f : FuncId} {vs : List V} {h : List Ho} {l : List UInt8}
    (hc : ∀ (F : Fr) (φ : List Pl) (w : World) (args : Array Value), DenL F φ w args.toList vs → Calls P f args w (RetB w l)) : Sp P K f vs h fun u hh => u = .sl 1 (bs l) ∧ hh = h := by
  intro F φ w args hK hi hd
  refine (hc F φ w args hd).mono ?_
  rintro e w' ⟨u, rfl, ho, bel⟩
  exact ⟨_, φ, _, h, rfl, .more bel.size (fun b hb => bel.block b hb) (io_below bel), hi.more bel.size (fun b hb => bel.block b hb) (io_below bel), .d (Den.ofOwn hi bel.size ho), rfl, rfl⟩
end Go.Proofs.Ytfcbpdokilidgaa
