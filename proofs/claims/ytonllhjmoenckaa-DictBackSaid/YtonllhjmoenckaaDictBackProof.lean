/- The law DictBack of the given program holds for every input: called with whatever arguments, it returns true, and each argument reads behind the call as it read before. -/
import Derived.Test.YtonllhjmoenckaaRows
import Derived.Test.YtonllhjmoenckaaDictE
import Derived.Test.YtonllhjmoenckaaVsR2
import Derived.WalkKit
import Derived.Below
import Derived.Carry
import Derived.ProofKit
import Derived.OpenShut
import Derived.ShutString
namespace Go.Proofs.Ytonllhjmoenckaa.dictBack
open Go Go.ChangeShapes Go.WideShapes Go.ChangeAt Go.RowKit
set_option linter.unusedVariables false
set_option linter.unusedSimpArgs false

theorem own : ownKnob Try.prog.godebug = none := by kernel_rfl
theorem laidOut : laidOutB Try.prog = true := by kernel_rfl

theorem rd_strs {H : Type} {enc : TypeId × Value → H} {w : World} {base : Nat} {held : Bool} : Rd enc Try.prog w base held 58 fun d => ∃ l : List ByteArray, d = [.sl 1 (ds l)] :=
  Rd.row (fun s : ByteArray => [D.sc (.string s)]) Try.underlying58 (by kernel_rfl) (by decide) (Rd.string Try.underlying9) fun d ⟨s, h, _⟩ => ⟨s, h⟩
set_option maxRecDepth 100000 in
set_option maxHeartbeats 2000000 in
theorem lifted (os : Os) (started : os.Started) (H : Type) (enc : TypeId × Value → H) :
    ReturnsInHanded {} Try.checked os 8 .any (Rows.dictBackSpec.pre6 enc Try.prog Try.f8 Rows.dictBackRow.domain false) (Rows.dictBackSpec.post enc Try.prog Try.f8 false true false false) := by
  refine returnsInHanded_of_change (C := Try.checked) own started (by kernel_rfl) Try.func8
    (ChangeSpec.witness6 (enc := enc) (C := Try.checked) false ⟨#[], #[.slice none 0 0, .slice none 0 0], []⟩ 8 (by kernel_rfl) (by kernel_rfl) (by kernel_rfl) (by kernel_rfl)) ?_
  intro W base args ds gs before hval0 hW hcnd _
  have hval : ∀ (j : Nat) t v, Try.f8.params[j]? = some t → args[j]? = some v → Value.okWide Try.prog W .any base t v := hval0
  have hW' := hW
  obtain ⟨p, q, hA0, hV, rfl, hfz, hnd⟩ := hW
  have hA : DataW.TrodAll enc Try.prog W 0 (fun _ => true) true Try.f8.params.toList args.toList ds p := hA0
  rw [Try.params8] at hA hval
  obtain ⟨v0, vs0, d0, ds0, p0, q0, hargs, rfl, rfl, h0, r0⟩ := trodAll_cons hA
  obtain ⟨v1, vs1, d1, ds1, p1, q1, rfl, rfl, rfl, h1, r1⟩ := trodAll_cons r0
  obtain ⟨rfl, rfl, rfl⟩ := trodAll_nil r1
  obtain rfl : args = #[v0, v1] := by cases args; simp_all
  obtain ⟨rfl, rfl⟩ := trodVars_none hV
  have k0 := h0
  have lt0 : ∀ x ∈ p0, x.block < W.heap.size := by obtain ⟨m, hm⟩ := k0; exact DataW.trod_lt m _ _ _ hm
  obtain ⟨a0, len0, cap0, rfl⟩ := okWide_slice Try.underlying58 (hval 0 58 v0 rfl rfl)
  obtain ⟨y0, ⟨l0, hl0⟩, D0⟩ := Rd.arg1 (rd_strs) h0 rfl
  have k1 := h1
  have lt1 : ∀ x ∈ p1, x.block < W.heap.size := by obtain ⟨m, hm⟩ := k1; exact DataW.trod_lt m _ _ _ hm
  obtain ⟨a1, len1, cap1, rfl⟩ := okWide_slice Try.underlying58 (hval 1 58 v1 rfl rfl)
  obtain ⟨y1, ⟨l1, hl1⟩, D1⟩ := Rd.arg1 (rd_strs) h1 rfl
  clear hA0 hval0
  obtain rfl : y0 = .sl 1 (ds l0) := by simpa using hl0
  obtain rfl : y1 = .sl 1 (ds l1) := by simpa using hl1
  refine (Sp.run (dictback_s l0 l1) (.cons D0 (.cons D1 .nil))).mono ?_
  rintro e W' ⟨u, v, h', rfl, bel, ⟨F, φ, hd⟩, rfl, -⟩
  obtain ⟨rfl, -⟩ := hd.sc
  exact ⟨_, rfl, _, _, _, [], _, [], hW', (trodAll_cons_mk (shut_bool Try.underlying4 _) trodAll_mk0), (trodAll_cons_mk (Below.trod laidOut (by kernel_rfl) (of_decide_eq_true (by kernel_rfl)) k0 bel lt0) (trodAll_cons_mk (Below.trod laidOut (by kernel_rfl) (of_decide_eq_true (by kernel_rfl)) k1 bel lt1) trodAll_mk0)), (by first | rfl | (simp; done)), bel.frame _, fun h => by cases h⟩

theorem over : Rows.dictBackRow.holds Try.pinned (OpenSpec.ofChange Rows.dictBackSpec) :=
  OpenClaim.holds_of_wide 8 Try.f8 rfl rfl rfl rfl rfl rfl rfl ⟨rfl, rfl, rfl, rfl, rfl⟩ rfl rfl rfl rfl rfl (by kernel_rfl) Try.func8 (by kernel_rfl)
    (of_decide_eq_true (by kernel_rfl)) (by unfold Func.isWrapper; first | (rw [if_pos (by decide +kernel)]; kernel_rfl) | (rw [if_neg (by decide +kernel)]; exact ⟨rfl, rfl⟩))
    (fun os started H enc _ => lifted os started H enc)

/-- The statement. -/
theorem proved : Rows.DictBackSaid :=
  over
#print axioms proved
end Go.Proofs.Ytonllhjmoenckaa.dictBack
