/- The law ScriptBack of the given program holds for every input: called with whatever arguments, it returns true, and each argument reads behind the call as it read before. -/
import Derived.Test.YtgfnpcmehnjopaaDoorB2
import Derived.Test.YtgfnpcmehnjopaaDoorB8
import Derived.Test.YtgfnpcmehnjopaaDoorB29
import Derived.Test.YtgfnpcmehnjopaaDoorB30
import Derived.Test.YtgfnpcmehnjopaaDoorB31
import Derived.Test.YtgfnpcmehnjopaaDoorRows
import Derived.Test.YtgfnpcmehnjopaaDoorTie
import Derived.Test.YtgfnpcmehnjopaaDoorCards
import Derived.WalkKit
import Derived.Below
import Derived.Carry
import Derived.ProofKit
import Derived.OpenShut
import Derived.ShutString
import Derived.LaidMore
import Derived.Stop.Joined
import Derived.SevenTiedAt
namespace Go.Proofs.YtgfnpcmehnjopaaDoor.scriptBack
open Go Go.ChangeShapes Go.WideShapes Go.ChangeAt Go.RowKit
set_option linter.unusedVariables false
set_option linter.unusedSimpArgs false

theorem own : ownKnob Tryd.prog.godebug = none := by kernel_rfl
theorem laidOut : laidOutB Tryd.prog = true := by kernel_rfl

theorem rd_wr {H : Type} {enc : TypeId × Value → H} {w : World} {base : Nat} {held : Bool} : Rd enc Tryd.prog w base held 39 fun ds => ∃ l : List Wr, ds = [.sl 3 (wrl l)] :=
  Rd.row Wr.d Tryd.underlying39 (by kernel_rfl) (by decide) (Rd.struct Tryd.underlying89
    (Ss := [_, _, _]) ⟨rfl, Rd.string Tryd.underlying9, by show _ = _; kernel_rfl, Rd.string Tryd.underlying9, by show _ = _; kernel_rfl, Rd.bool Tryd.underlying4, by show _ = _; kernel_rfl⟩) fun ds h => by
    obtain ⟨a1, b1, rfl, ⟨k, rfl, _⟩, h1⟩ := h.cons
    obtain ⟨a2, b2, rfl, ⟨v, rfl, _⟩, h2⟩ := h1.cons
    obtain ⟨a3, b3, rfl, ⟨g, rfl, _⟩, h3⟩ := h2.cons
    obtain rfl := h3.nil
    exact ⟨⟨k, v, g⟩, rfl⟩
theorem rd_clk {H : Type} {enc : TypeId × Value → H} {w : World} {base : Nat} {held : Bool} : Rd enc Tryd.prog w base held 38 fun ds => ∃ c : Clk, ds = [.sc (.int .i64 c.x), .sc (.int .i64 c.y), .sc (.int .i64 c.z)] :=
  (Rd.array Tryd.underlying38 (n := 3) (k := 1) (by kernel_rfl) (by kernel_rfl) (Rd.int Tryd.underlying2)).mono fun ds h => by
    obtain ⟨a1, b1, rfl, ⟨x, rfl, _⟩, h1⟩ := h.cons
    obtain ⟨a2, b2, rfl, ⟨y, rfl, _⟩, h2⟩ := h1.cons
    obtain ⟨a3, b3, rfl, ⟨z, rfl, _⟩, h3⟩ := h2.cons
    obtain rfl := h3.nil
    exact ⟨⟨x, y, z⟩, rfl⟩
theorem rd_ks {H : Type} {enc : TypeId × Value → H} {w : World} {base : Nat} {held : Bool} : Rd enc Tryd.prog w base held 40 fun ds => ∃ l : List Int, ds = [.sl 1 (il l)] :=
  Rd.row (fun n : Int => [.sc (.int .i64 n)]) Tryd.underlying40 (by kernel_rfl) (by decide) (Rd.int Tryd.underlying3) fun ds h => by
    obtain ⟨n, rfl, _⟩ := h
    exact ⟨n, rfl⟩
structure ItX where
  x : It
  h : ItM x
theorem itx_all (l : List ItX) : ∀ y ∈ l.map ItX.x, ItM y := fun y hy => by
  obtain ⟨z, _, rfl⟩ := List.mem_map.1 hy
  exact z.h
theorem itx_map (l : List ItX) : l.map (fun z => z.x.D) = its (l.map ItX.x) := by simp [its]
theorem rd_its {H : Type} {enc : TypeId × Value → H} {w : World} {base : Nat} {held : Bool} : Rd enc Tryd.prog w base held 22 fun ds => ∃ l : List It, ds = [.sl 10 (its l)] ∧ ∀ x ∈ l, ItM x :=
  (Rd.row (k := 10) (fun z : ItX => z.x.D) Tryd.underlying22 (by kernel_rfl) (by decide) (Rd.struct Tryd.underlying42
    (Ss := [_, _, _, _, _, _, _, _]) ⟨rfl, Rd.int Tryd.underlying3, by show _ = _; kernel_rfl, Rd.int Tryd.underlying3, by show _ = _; kernel_rfl, Rd.int Tryd.underlying3, by show _ = _; kernel_rfl, Rd.int Tryd.underlying3, by show _ = _; kernel_rfl, Rd.int Tryd.underlying36, by show _ = _; kernel_rfl, rd_clk, by show _ = _; kernel_rfl, rd_wr, by show _ = _; kernel_rfl, rd_ks, by show _ = _; kernel_rfl⟩) fun ds h => by
    obtain ⟨a1, b1, rfl, ⟨d, rfl, _⟩, h1⟩ := h.cons
    obtain ⟨a2, b2, rfl, ⟨o, rfl, _⟩, h2⟩ := h1.cons
    obtain ⟨a3, b3, rfl, ⟨n, rfl, _⟩, h3⟩ := h2.cons
    obtain ⟨a4, b4, rfl, ⟨a, rfl, _⟩, h4⟩ := h3.cons
    obtain ⟨a5, b5, rfl, ⟨m, rfl, hm⟩, h5⟩ := h4.cons
    obtain ⟨a6, b6, rfl, ⟨c, rfl⟩, h6⟩ := h5.cons
    obtain ⟨a7, b7, rfl, ⟨w, rfl⟩, h7⟩ := h6.cons
    obtain ⟨a8, b8, rfl, ⟨k, rfl⟩, h8⟩ := h7.cons
    obtain rfl := h8.nil
    exact ⟨⟨⟨d, o, n, a, m, c, w, k⟩, (by have := bounds_u32 hm; exact ⟨this.1, by show m < 4294967296; omega⟩)⟩, rfl⟩).mono fun ds ⟨l, hl⟩ => ⟨l.map ItX.x, by rw [hl, itx_map], itx_all l⟩
theorem itlen {F : Fr} {φ : List Pl} {w : World} {r : Value} {l : List It} (h : Den F φ w r (.d (.sl 10 (its l)))) : LenI l := fun x hx => by
  have h1 := h.el_le (e := x.D) (j := 8) (es2 := wrl x.w) (List.mem_map.2 ⟨x, hx, rfl⟩) rfl
  have h2 := h.el_le (e := x.D) (j := 9) (es2 := il x.k) (List.mem_map.2 ⟨x, hx, rfl⟩) rfl
  rw [wrl_len] at h1
  rw [il_len] at h2
  exact ⟨h1, h2⟩
set_option maxRecDepth 100000 in
set_option maxHeartbeats 2000000 in
theorem lifted (os : Os) (started : os.Started) (H : Type) (enc : TypeId × Value → H) :
    ReturnsInHanded {} Tryd.checked os 5 .any (fun w args => (Rows.scriptBackSpec.pre enc Tryd.prog Tryd.f5 [] false w args ∧ laidMetH Tryd.prog Rows.scriptBackRow.laid w) ∧ sizedMet enc Tryd.prog Tryd.f5 (OpenSpec.ofChange Rows.scriptBackSpec) false w args) (Rows.scriptBackSpec.post enc Tryd.prog Tryd.f5 false true false false) := by
  refine returnsInHanded_of_change_and (C := Tryd.checked) (X := fun w _ => laidMetH Tryd.prog Rows.scriptBackRow.laid w) (fun _ _ _ hh h => h.of_heap hh) own started (by kernel_rfl) Tryd.func5
    (ChangeSpec.witness_shaped (enc := enc) (C := Tryd.checked) (os := os) (X := fun w _ => laidMetH Tryd.prog Rows.scriptBackRow.laid w) false (World.doorLaid Tryd.prog 400 os) #[.slice none 0 0, .slice none 0 0, .slice none 0 0] 8 rfl (World.shaped_of_RefB (by kernel_rfl) (by kernel_rfl)) (by kernel_rfl) (by kernel_rfl) (by kernel_rfl) (laidMetH_of_parts3 (fuel := 8) (laidMet_of_run' 8 (by kernel_rfl) (by kernel_rfl)) (by kernel_rfl) (by kernel_rfl))) ?_
  intro W base args ds gs before hval0 hW _ _ hL _
  have hval : ∀ (j : Nat) t v, Tryd.f5.params[j]? = some t → args[j]? = some v → Value.okWide Tryd.prog W .any base t v := hval0
  have hW' := hW
  obtain ⟨p, q, hA0, hV, rfl, hfz, hnd⟩ := hW
  have hA : DataW.TrodAll enc Tryd.prog W 0 (fun _ => true) true Tryd.f5.params.toList args.toList ds p := hA0
  rw [Tryd.params5] at hA hval
  obtain ⟨v0, vs0, d0, ds0, p0, q0, hargs, rfl, rfl, h0, r0⟩ := trodAll_cons hA
  obtain ⟨v1, vs1, d1, ds1, p1, q1, rfl, rfl, rfl, h1, r1⟩ := trodAll_cons r0
  obtain ⟨v2, vs2, d2, ds2, p2, q2, rfl, rfl, rfl, h2, r2⟩ := trodAll_cons r1
  obtain ⟨rfl, rfl, rfl⟩ := trodAll_nil r2
  obtain rfl : args = #[v0, v1, v2] := by cases args; simp_all
  obtain ⟨rfl, rfl⟩ := trodVars_none hV
  have k0 := h0
  have lt0 : ∀ x ∈ p0, x.block < W.heap.size := by obtain ⟨m, hm⟩ := k0; exact DataW.trod_lt m _ _ _ hm
  obtain ⟨a0, len0, cap0, rfl⟩ := okWide_slice Tryd.underlying22 (hval 0 22 v0 rfl rfl)
  obtain ⟨y0, ⟨l, hl, hm⟩, D0⟩ := Rd.arg1 (rd_its) h0 rfl
  have k1 := h1
  have lt1 : ∀ x ∈ p1, x.block < W.heap.size := by obtain ⟨m, hm⟩ := k1; exact DataW.trod_lt m _ _ _ hm
  obtain ⟨a1, len1, cap1, rfl⟩ := okWide_slice Tryd.underlying23 (hval 1 23 v1 rfl rfl)
  obtain ⟨y1, ⟨b, hb⟩, D1⟩ := Rd.arg1 (Rd.bytes Tryd.underlying23 Tryd.underlying5 (by kernel_rfl)) h1 rfl
  have k2 := h2
  have lt2 : ∀ x ∈ p2, x.block < W.heap.size := by obtain ⟨m, hm⟩ := k2; exact DataW.trod_lt m _ _ _ hm
  obtain ⟨a2, len2, cap2, rfl⟩ := okWide_slice Tryd.underlying23 (hval 2 23 v2 rfl rfl)
  obtain ⟨y2, ⟨p, hp⟩, D2⟩ := Rd.arg1 (Rd.bytes Tryd.underlying23 Tryd.underlying5 (by kernel_rfl)) h2 rfl
  clear hA0 hval0
  have ht := kt_tab2 (tabs_of_laid hL).1
  have hT := tt_tab2 (tabs_of_laid hL).2
  obtain rfl : y0 = .sl 10 (its l) := by simpa using hl
  obtain rfl : y1 = .sl 1 (bs b) := by simpa using hb
  obtain rfl : y2 = .sl 1 (bs p) := by simpa using hp
  refine (Sp.runT2 (scrback_s hT ht (awake22_s hT ht) l b p (by have := D0.len_le; rwa [its_len] at this) hm (itlen D0)) (.cons (Den.kn2 D0) (.cons (Den.kn2 D1) (.cons (Den.kn2 D2) .nil)))).mono ?_
  rintro e W' ⟨u, v, h', rfl, bel, ⟨F, φ, hd⟩, rfl, -⟩
  obtain ⟨rfl, -⟩ := hd.sc
  exact ⟨_, rfl, _, _, _, [], _, [], hW', (trodAll_cons_mk (shut_bool Tryd.underlying4 _) trodAll_mk0), (trodAll_cons_mk (Below.trod laidOut (by kernel_rfl) (of_decide_eq_true (by kernel_rfl)) k0 bel lt0) (trodAll_cons_mk (Below.trod laidOut (by kernel_rfl) (of_decide_eq_true (by kernel_rfl)) k1 bel lt1) (trodAll_cons_mk (Below.trod laidOut (by kernel_rfl) (of_decide_eq_true (by kernel_rfl)) k2 bel lt2) trodAll_mk0))), (by first | rfl | (simp; done)), bel.frame _, fun h => by cases h⟩

theorem over : Rows.scriptBackRow.holds Tryd.pinned (OpenSpec.ofChange Rows.scriptBackSpec) :=
  OpenClaim.holds_of_wide 5 Tryd.f5 rfl rfl rfl rfl rfl rfl rfl ⟨rfl, rfl, rfl, rfl, rfl⟩ rfl rfl rfl rfl rfl (by kernel_rfl) Tryd.func5 (by kernel_rfl)
    (of_decide_eq_true (by kernel_rfl)) (by unfold Func.isWrapper; first | (rw [if_pos (by decide +kernel)]; kernel_rfl) | (rw [if_neg (by decide +kernel)]; exact ⟨rfl, rfl⟩))
    (fun os started H enc _ => lifted os started H enc)

/-- The statement. -/
theorem proved : Rows.ScriptBackSaid :=
  over
#print axioms proved

/-- The tied card. -/
theorem card : Rows.ScriptBackCardSaid :=
  Claim7.holds_tied_plain_at .later [] [.data, .data] true (true, "0ade4416e34933b240847ba9878fb54900ffeca644053ce618a4409d63690e59") true
    proved (fun _ h => by cases h) (by kernel_rfl) (fun _ h => by cases h) scriptBack_row_tie rfl ⟨rfl, rfl⟩ (by kernel_rfl) rfl
    (fun f fn hf hfn => by
      obtain rfl : f = 5 := Option.some.inj ((show Tryd.prog.funcNamed "packetboat/packetboatlaw22.ScriptBack" = some 5 by kernel_rfl).symm.trans hf) |>.symm
      obtain rfl : fn = Tryd.f5 := (Option.some.inj (Tryd.func5.symm.trans hfn)).symm
      exact ⟨by kernel_rfl, fun j t ht => by
        rw [Tryd.params5] at ht
        have hm : t ∈ [22, 23, 23] := by simpa using Array.mem_of_getElem? ht
        have hall : ([22, 23, 23].all fun u => !Tryd.prog.wantsStandIn u) = true := by kernel_rfl
        exact (show Tryd.prog.wantsStandIn t = false by simpa using List.all_eq_true.1 hall t hm)⟩)
    (by kernel_rfl)
#print axioms card
end Go.Proofs.YtgfnpcmehnjopaaDoor.scriptBack
