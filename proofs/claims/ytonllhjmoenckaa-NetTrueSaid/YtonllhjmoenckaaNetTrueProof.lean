/- The law NetTrue of the given program holds for every input: called with whatever arguments, it returns true, and each argument reads behind the call as it read before. -/
import Derived.Test.YtonllhjmoenckaaRows
import Derived.Test.YtonllhjmoenckaaNetW
import Derived.Test.YtonllhjmoenckaaVsR2
import Derived.Test.YtonllhjmoenckaaRow
import Derived.WalkKit
import Derived.Below
import Derived.Carry
import Derived.ProofKit
import Derived.OpenShut
import Derived.ShutString
namespace Go.Proofs.Ytonllhjmoenckaa.netTrue
open Go Go.ChangeShapes Go.WideShapes Go.ChangeAt Go.RowKit
set_option linter.unusedVariables false
set_option linter.unusedSimpArgs false

theorem own : ownKnob Try.prog.godebug = none := by kernel_rfl
theorem laidOut : laidOutB Try.prog = true := by kernel_rfl

theorem rd_act {H : Type} {enc : TypeId × Value → H} {w : World} {base : Nat} {held : Bool} : Rd enc Try.prog w base held 22 fun ds => ∃ l : List {a : Nact // a.wf}, ds = [.sl 6 (l.map fun a => a.1.d)] :=
  Rd.row (fun a : {a : Nact // a.wf} => a.1.d) Try.underlying22 (by kernel_rfl) (by decide) (Rd.struct Try.underlying37
    (Ss := [_, _, _, _, _]) ⟨rfl, Rd.int Try.underlying3, by show _ = _; kernel_rfl, Rd.int Try.underlying3, by show _ = _; kernel_rfl, Rd.int Try.underlying3, by show _ = _; kernel_rfl, Rd.int Try.underlying32, by show _ = _; kernel_rfl, Rd.struct Try.underlying35 (Ss := [_, _]) ⟨rfl, Rd.int Try.underlying3, by show _ = _; kernel_rfl, Rd.bytes Try.underlying33 Try.underlying5 (by kernel_rfl), by show _ = _; kernel_rfl⟩, by show _ = _; kernel_rfl⟩) fun ds h => by
    obtain ⟨a1, b1, rfl, ⟨n1, rfl, _⟩, h1⟩ := h.cons
    obtain ⟨a2, b2, rfl, ⟨n2, rfl, w2⟩, h2⟩ := h1.cons
    obtain ⟨a3, b3, rfl, ⟨n3, rfl, w3⟩, h3⟩ := h2.cons
    obtain ⟨a4, b4, rfl, ⟨n4, rfl, w4⟩, h4⟩ := h3.cons
    obtain ⟨a5, b5, rfl, h5, h6⟩ := h4.cons
    obtain rfl := h6.nil
    obtain ⟨c1, e1, rfl, ⟨m1, rfl, _⟩, g1⟩ := h5.cons
    obtain ⟨c2, e2, rfl, ⟨m2, rfl⟩, g2⟩ := g1.cons
    obtain rfl := g2.nil
    obtain ⟨m, rfl⟩ := u32_of_wf w4
    have v2 := bounds_i64 w2
    have v3 := bounds_i64 w3
    exact ⟨⟨⟨n1, n2, n3, m, ⟨m1, m2⟩⟩, by unfold Nact.wf; dsimp only; omega⟩, rfl⟩
theorem acts_of {y : D} (h : ∃ l : List {a : Nact // a.wf}, [y] = [.sl 6 (l.map fun a => a.1.d)]) : ∃ l : List Nact, y = .sl 6 (nacts l) ∧ ∀ a ∈ l, a.wf := by
  obtain ⟨l, h⟩ := h
  refine ⟨l.map (·.1), ?_, fun a ha => ?_⟩
  · simp only [List.cons.injEq, and_true] at h
    rw [h, nacts, List.map_map]; rfl
  · obtain ⟨b, _, rfl⟩ := List.mem_map.1 ha
    exact b.2
set_option maxRecDepth 100000 in
set_option maxHeartbeats 2000000 in
theorem lifted (os : Os) (started : os.Started) (H : Type) (enc : TypeId × Value → H) :
    ReturnsInHanded {} Try.checked os 4 .any (Rows.netTrueSpec.pre6 enc Try.prog Try.f4 Rows.netTrueRow.domain false) (Rows.netTrueSpec.post enc Try.prog Try.f4 false true false false) := by
  refine returnsInHanded_of_change (C := Try.checked) own started (by kernel_rfl) Try.func4
    (ChangeSpec.witness6 (enc := enc) (C := Try.checked) false ⟨#[], #[.slice none 0 0], []⟩ 8 (by kernel_rfl) (by kernel_rfl) (by kernel_rfl) (by kernel_rfl)) ?_
  intro W base args ds gs before hval0 hW hcnd _
  have hval : ∀ (j : Nat) t v, Try.f4.params[j]? = some t → args[j]? = some v → Value.okWide Try.prog W .any base t v := hval0
  have hW' := hW
  obtain ⟨p, q, hA0, hV, rfl, hfz, hnd⟩ := hW
  have hA : DataW.TrodAll enc Try.prog W 0 (fun _ => true) true Try.f4.params.toList args.toList ds p := hA0
  rw [Try.params4] at hA hval
  obtain ⟨v0, vs0, d0, ds0, p0, q0, hargs, rfl, rfl, h0, r0⟩ := trodAll_cons hA
  obtain ⟨rfl, rfl, rfl⟩ := trodAll_nil r0
  obtain rfl : args = #[v0] := by cases args; simp_all
  obtain ⟨rfl, rfl⟩ := trodVars_none hV
  have k0 := h0
  have lt0 : ∀ x ∈ p0, x.block < W.heap.size := by obtain ⟨m, hm⟩ := k0; exact DataW.trod_lt m _ _ _ hm
  obtain ⟨a0, len0, cap0, rfl⟩ := okWide_slice Try.underlying22 (hval 0 22 v0 rfl rfl)
  obtain ⟨y0, hS, D0⟩ := Rd.arg1 (rd_act) h0 rfl
  clear hA0 hval0
  obtain ⟨l, rfl, hw⟩ := acts_of hS
  refine (Sp.run (nettrue_s l (by have := D0.len_le; rwa [nacts_len] at this) hw) (.cons D0 .nil)).mono ?_
  rintro e W' ⟨u, v, h', rfl, bel, ⟨F, φ, hd⟩, rfl, -⟩
  obtain ⟨rfl, -⟩ := hd.sc
  exact ⟨_, rfl, _, _, _, [], _, [], hW', (trodAll_cons_mk (shut_bool Try.underlying4 _) trodAll_mk0), (trodAll_cons_mk (Below.trod laidOut (by kernel_rfl) (of_decide_eq_true (by kernel_rfl)) k0 bel lt0) trodAll_mk0), (by first | rfl | (simp; done)), bel.frame _, fun h => by cases h⟩

theorem over : Rows.netTrueRow.holds Try.pinned (OpenSpec.ofChange Rows.netTrueSpec) :=
  OpenClaim.holds_of_wide 4 Try.f4 rfl rfl rfl rfl rfl rfl rfl ⟨rfl, rfl, rfl, rfl, rfl⟩ rfl rfl rfl rfl rfl (by kernel_rfl) Try.func4 (by kernel_rfl)
    (of_decide_eq_true (by kernel_rfl)) (by unfold Func.isWrapper; first | (rw [if_pos (by decide +kernel)]; kernel_rfl) | (rw [if_neg (by decide +kernel)]; exact ⟨rfl, rfl⟩))
    (fun os started H enc _ => lifted os started H enc)

/-- The statement. -/
theorem proved : Rows.NetTrueSaid :=
  over
#print axioms proved
end Go.Proofs.Ytonllhjmoenckaa.netTrue
