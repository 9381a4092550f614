/- The law ScriptRow of the given program holds for every input: called with whatever arguments, it returns true, and each argument reads behind the call as it read before. -/
import Derived.Test.YtgfnpcmehnjopaaDoorS2
import Derived.Test.YtgfnpcmehnjopaaDoorS8
import Derived.Test.YtgfnpcmehnjopaaDoorS28
import Derived.Test.YtgfnpcmehnjopaaDoorS29
import Derived.Test.YtgfnpcmehnjopaaDoorS30
import Derived.Test.YtgfnpcmehnjopaaDoorRows
import Derived.Test.YtgfnpcmehnjopaaDoorTie
import Derived.Test.YtgfnpcmehnjopaaDoorCards
import Derived.WalkKit
import Derived.Below
import Derived.Carry
import Derived.ProofKit
import Derived.OpenShut
import Derived.ShutString
import Derived.LaidMore
import Derived.Stop.Joined
import Derived.SevenTiedAt
namespace Go.Proofs.YtgfnpcmehnjopaaDoor.scriptRow
open Go Go.ChangeShapes Go.WideShapes Go.ChangeAt Go.RowKit
set_option linter.unusedVariables false
set_option linter.unusedSimpArgs false

theorem own : ownKnob Tryd.prog.godebug = none := by kernel_rfl
theorem laidOut : laidOutB Tryd.prog = true := by kernel_rfl

set_option maxRecDepth 100000 in
set_option maxHeartbeats 2000000 in
theorem lifted (os : Os) (started : os.Started) (H : Type) (enc : TypeId × Value → H) :
    ReturnsInHanded {} Tryd.checked os 4 .any (fun w args => (Rows.scriptRowSpec.pre enc Tryd.prog Tryd.f4 [] false w args ∧ laidMetH Tryd.prog Rows.scriptRowRow.laid w) ∧ sizedMet enc Tryd.prog Tryd.f4 (OpenSpec.ofChange Rows.scriptRowSpec) false w args) (Rows.scriptRowSpec.post enc Tryd.prog Tryd.f4 false true false false) := by
  refine returnsInHanded_of_change_and (C := Tryd.checked) (X := fun w _ => laidMetH Tryd.prog Rows.scriptRowRow.laid w) (fun _ _ _ hh h => h.of_heap hh) own started (by kernel_rfl) Tryd.func4
    (ChangeSpec.witness_shaped (enc := enc) (C := Tryd.checked) (os := os) (X := fun w _ => laidMetH Tryd.prog Rows.scriptRowRow.laid w) false (World.doorLaid Tryd.prog 400 os) #[.slice none 0 0] 8 rfl (World.shaped_of_RefB (by kernel_rfl) (by kernel_rfl)) (by kernel_rfl) (by kernel_rfl) (by kernel_rfl) (laidMetH_of_parts3 (fuel := 8) (laidMet_of_run' 8 (by kernel_rfl) (by kernel_rfl)) (by kernel_rfl) (by kernel_rfl))) ?_
  intro W base args ds gs before hval0 hW _ _ hL _
  have hval : ∀ (j : Nat) t v, Tryd.f4.params[j]? = some t → args[j]? = some v → Value.okWide Tryd.prog W .any base t v := hval0
  have hW' := hW
  obtain ⟨p, q, hA0, hV, rfl, hfz, hnd⟩ := hW
  have hA : DataW.TrodAll enc Tryd.prog W 0 (fun _ => true) true Tryd.f4.params.toList args.toList ds p := hA0
  rw [Tryd.params4] at hA hval
  obtain ⟨v0, vs0, d0, ds0, p0, q0, hargs, rfl, rfl, h0, r0⟩ := trodAll_cons hA
  obtain ⟨rfl, rfl, rfl⟩ := trodAll_nil r0
  obtain rfl : args = #[v0] := by cases args; simp_all
  obtain ⟨rfl, rfl⟩ := trodVars_none hV
  have k0 := h0
  have lt0 : ∀ x ∈ p0, x.block < W.heap.size := by obtain ⟨m, hm⟩ := k0; exact DataW.trod_lt m _ _ _ hm
  obtain ⟨a0, len0, cap0, rfl⟩ := okWide_slice Tryd.underlying23 (hval 0 23 v0 rfl rfl)
  obtain ⟨y0, ⟨l0, hl0⟩, D0⟩ := Rd.arg1 (Rd.bytes Tryd.underlying23 Tryd.underlying5 (by kernel_rfl)) h0 rfl
  clear hA0 hval0
  have ht := kt_tab2 (tabs_of_laid hL).1
  have hT := tt_tab2 (tabs_of_laid hL).2
  obtain rfl : y0 = .sl 1 (bs l0) := by simpa using hl0
  refine (Sp.runT2 (scrrow_s hT ht (awake22_s hT ht) l0) (.cons (Den.kn2 D0) .nil)).mono ?_
  rintro e W' ⟨u, v, h', rfl, bel, ⟨F, φ, hd⟩, rfl, -⟩
  obtain ⟨rfl, -⟩ := hd.sc
  exact ⟨_, rfl, _, _, _, [], _, [], hW', (trodAll_cons_mk (shut_bool Tryd.underlying4 _) trodAll_mk0), (trodAll_cons_mk (Below.trod laidOut (by kernel_rfl) (of_decide_eq_true (by kernel_rfl)) k0 bel lt0) trodAll_mk0), (by first | rfl | (simp; done)), bel.frame _, fun h => by cases h⟩

theorem over : Rows.scriptRowRow.holds Tryd.pinned (OpenSpec.ofChange Rows.scriptRowSpec) :=
  OpenClaim.holds_of_wide 4 Tryd.f4 rfl rfl rfl rfl rfl rfl rfl ⟨rfl, rfl, rfl, rfl, rfl⟩ rfl rfl rfl rfl rfl (by kernel_rfl) Tryd.func4 (by kernel_rfl)
    (of_decide_eq_true (by kernel_rfl)) (by unfold Func.isWrapper; first | (rw [if_pos (by decide +kernel)]; kernel_rfl) | (rw [if_neg (by decide +kernel)]; exact ⟨rfl, rfl⟩))
    (fun os started H enc _ => lifted os started H enc)

/-- The statement. -/
theorem proved : Rows.ScriptRowSaid :=
  over
#print axioms proved

/-- The tied card. -/
theorem card : Rows.ScriptRowCardSaid :=
  Claim7.holds_tied_plain_at .later [] [.data, .data] true (true, "0ade4416e34933b240847ba9878fb54900ffeca644053ce618a4409d63690e59") true
    proved (fun _ h => by cases h) (by kernel_rfl) (fun _ h => by cases h) scriptRow_row_tie rfl ⟨rfl, rfl⟩ (by kernel_rfl) rfl
    (fun f fn hf hfn => by
      obtain rfl : f = 4 := Option.some.inj ((show Tryd.prog.funcNamed "packetboat/packetboatlaw22.ScriptRow" = some 4 by kernel_rfl).symm.trans hf) |>.symm
      obtain rfl : fn = Tryd.f4 := (Option.some.inj (Tryd.func4.symm.trans hfn)).symm
      exact ⟨by kernel_rfl, fun j t ht => by
        rw [Tryd.params4] at ht
        have hm : t ∈ [23] := by simpa using Array.mem_of_getElem? ht
        have hall : ([23].all fun u => !Tryd.prog.wantsStandIn u) = true := by kernel_rfl
        exact (show Tryd.prog.wantsStandIn t = false by simpa using List.all_eq_true.1 hall t hm)⟩)
    (by kernel_rfl)
#print axioms card
end Go.Proofs.YtgfnpcmehnjopaaDoor.scriptRow
