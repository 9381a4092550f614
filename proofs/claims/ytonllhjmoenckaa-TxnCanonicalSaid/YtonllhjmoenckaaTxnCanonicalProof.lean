/- The law TxnCanonical of the given program holds for every input: called with whatever arguments, it returns true, and each argument reads behind the call as it read before. -/
import Derived.Test.YtonllhjmoenckaaRows
import Derived.Test.YtonllhjmoenckaaTxnZ
import Derived.Test.YtonllhjmoenckaaTxnX
import Derived.Test.YtonllhjmoenckaaVsR
import Derived.WalkKit
import Derived.Below
import Derived.Carry
import Derived.ProofKit
import Derived.OpenShut
import Derived.ShutString
namespace Go.Proofs.Ytonllhjmoenckaa.txnCanonical
open Go Go.ChangeShapes Go.WideShapes Go.ChangeAt Go.RowKit
set_option linter.unusedVariables false
set_option linter.unusedSimpArgs false

theorem own : ownKnob Try.prog.godebug = none := by kernel_rfl
theorem laidOut : laidOutB Try.prog = true := by kernel_rfl

theorem rd_wr {H : Type} {enc : TypeId × Value → H} {w : World} {base : Nat} {held : Bool} : Rd enc Try.prog w base held 79 fun ds => ∃ l : List Wr, ds = [.sl 3 (wrl l)] :=
  Rd.row Wr.d Try.underlying79 (by kernel_rfl) (by decide) (Rd.struct Try.underlying138
    (Ss := [_, _, _]) ⟨rfl, Rd.string Try.underlying9, by show _ = _; kernel_rfl, Rd.string Try.underlying9, by show _ = _; kernel_rfl, Rd.bool Try.underlying4, by show _ = _; kernel_rfl⟩) fun ds h => by
    obtain ⟨a1, b1, rfl, ⟨k, rfl, _⟩, h1⟩ := h.cons
    obtain ⟨a2, b2, rfl, ⟨v, rfl, _⟩, h2⟩ := h1.cons
    obtain ⟨a3, b3, rfl, ⟨g, rfl, _⟩, h3⟩ := h2.cons
    obtain rfl := h3.nil
    exact ⟨⟨k, v, g⟩, rfl⟩
theorem rd_clk {H : Type} {enc : TypeId × Value → H} {w : World} {base : Nat} {held : Bool} : Rd enc Try.prog w base held 78 fun ds => ∃ c : Clk, ds = [.sc (.int .i64 c.x), .sc (.int .i64 c.y), .sc (.int .i64 c.z)] :=
  (Rd.array Try.underlying78 (n := 3) (k := 1) (by kernel_rfl) (by kernel_rfl) (Rd.int Try.underlying2)).mono fun ds h => by
    obtain ⟨a1, b1, rfl, ⟨x, rfl, _⟩, h1⟩ := h.cons
    obtain ⟨a2, b2, rfl, ⟨y, rfl, _⟩, h2⟩ := h1.cons
    obtain ⟨a3, b3, rfl, ⟨z, rfl, _⟩, h3⟩ := h2.cons
    obtain rfl := h3.nil
    exact ⟨⟨x, y, z⟩, rfl⟩
theorem rd_act {H : Type} {enc : TypeId × Value → H} {w : World} {base : Nat} {held : Bool} : Rd enc Try.prog w base held 73 fun ds => ∃ l : List Tact, ds = [.sl 8 (tacts l)] :=
  Rd.row Tact.d Try.underlying73 (by kernel_rfl) (by decide) (Rd.struct Try.underlying83
    (Ss := [_, _, _]) ⟨rfl, Rd.int Try.underlying3, by show _ = _; kernel_rfl, Rd.struct Try.underlying81 (Ss := [_, _, _, _]) ⟨rfl, Rd.int Try.underlying3, by show _ = _; kernel_rfl, Rd.int Try.underlying2, by show _ = _; kernel_rfl, rd_clk, by show _ = _; kernel_rfl, rd_wr, by show _ = _; kernel_rfl⟩, by show _ = _; kernel_rfl, Rd.bytes Try.underlying33 Try.underlying5 (by kernel_rfl), by show _ = _; kernel_rfl⟩) fun ds h => by
    obtain ⟨a1, b1, rfl, ⟨n, rfl, _⟩, h1⟩ := h.cons
    obtain ⟨a2, b2, rfl, g, h2⟩ := h1.cons
    obtain ⟨a3, b3, rfl, ⟨b, rfl⟩, h3⟩ := h2.cons
    obtain rfl := h3.nil
    obtain ⟨c1, e1, rfl, ⟨o, rfl, _⟩, g1⟩ := g.cons
    obtain ⟨c2, e2, rfl, ⟨s, rfl, _⟩, g2⟩ := g1.cons
    obtain ⟨c3, e3, rfl, ⟨c, rfl⟩, g3⟩ := g2.cons
    obtain ⟨c4, e4, rfl, ⟨w, rfl⟩, g4⟩ := g3.cons
    obtain rfl := g4.nil
    exact ⟨⟨n, ⟨o, s, c, w⟩, b⟩, rfl⟩
set_option maxRecDepth 100000 in
set_option maxHeartbeats 2000000 in
theorem lifted (os : Os) (started : os.Started) (H : Type) (enc : TypeId × Value → H) :
    ReturnsInHanded {} Try.checked os 11 .any (Rows.txnCanonicalSpec.pre6 enc Try.prog Try.f11 Rows.txnCanonicalRow.domain false) (Rows.txnCanonicalSpec.post enc Try.prog Try.f11 false true false false) := by
  refine returnsInHanded_of_change (C := Try.checked) own started (by kernel_rfl) Try.func11
    (ChangeSpec.witness6 (enc := enc) (C := Try.checked) false ⟨#[], #[.slice none 0 0], []⟩ 8 (by kernel_rfl) (by kernel_rfl) (by kernel_rfl) (by kernel_rfl)) ?_
  intro W base args ds gs before hval0 hW hcnd _
  have hval : ∀ (j : Nat) t v, Try.f11.params[j]? = some t → args[j]? = some v → Value.okWide Try.prog W .any base t v := hval0
  have hW' := hW
  obtain ⟨p, q, hA0, hV, rfl, hfz, hnd⟩ := hW
  have hA : DataW.TrodAll enc Try.prog W 0 (fun _ => true) true Try.f11.params.toList args.toList ds p := hA0
  rw [Try.params11] at hA hval
  obtain ⟨v0, vs0, d0, ds0, p0, q0, hargs, rfl, rfl, h0, r0⟩ := trodAll_cons hA
  obtain ⟨rfl, rfl, rfl⟩ := trodAll_nil r0
  obtain rfl : args = #[v0] := by cases args; simp_all
  obtain ⟨rfl, rfl⟩ := trodVars_none hV
  have k0 := h0
  have lt0 : ∀ x ∈ p0, x.block < W.heap.size := by obtain ⟨m, hm⟩ := k0; exact DataW.trod_lt m _ _ _ hm
  obtain ⟨a0, len0, cap0, rfl⟩ := okWide_slice Try.underlying73 (hval 0 73 v0 rfl rfl)
  obtain ⟨y0, ⟨l, hl⟩, D0⟩ := Rd.arg1 (rd_act) h0 rfl
  clear hA0 hval0
  obtain rfl : y0 = .sl 8 (tacts l) := by simpa using hl
  refine (Sp.run (txncanonical_s awake06_s l (by have := D0.len_le; rwa [tacts_len] at this)) (.cons D0 .nil)).mono ?_
  rintro e W' ⟨u, v, h', rfl, bel, ⟨F, φ, hd⟩, rfl, -⟩
  obtain ⟨rfl, -⟩ := hd.sc
  exact ⟨_, rfl, _, _, _, [], _, [], hW', (trodAll_cons_mk (shut_bool Try.underlying4 _) trodAll_mk0), (trodAll_cons_mk (Below.trod laidOut (by kernel_rfl) (of_decide_eq_true (by kernel_rfl)) k0 bel lt0) trodAll_mk0), (by first | rfl | (simp; done)), bel.frame _, fun h => by cases h⟩

theorem over : Rows.txnCanonicalRow.holds Try.pinned (OpenSpec.ofChange Rows.txnCanonicalSpec) :=
  OpenClaim.holds_of_wide 11 Try.f11 rfl rfl rfl rfl rfl rfl rfl ⟨rfl, rfl, rfl, rfl, rfl⟩ rfl rfl rfl rfl rfl (by kernel_rfl) Try.func11 (by kernel_rfl)
    (of_decide_eq_true (by kernel_rfl)) (by unfold Func.isWrapper; first | (rw [if_pos (by decide +kernel)]; kernel_rfl) | (rw [if_neg (by decide +kernel)]; exact ⟨rfl, rfl⟩))
    (fun os started H enc _ => lifted os started H enc)

/-- The statement. -/
theorem proved : Rows.TxnCanonicalSaid :=
  over
#print axioms proved
end Go.Proofs.Ytonllhjmoenckaa.txnCanonical
