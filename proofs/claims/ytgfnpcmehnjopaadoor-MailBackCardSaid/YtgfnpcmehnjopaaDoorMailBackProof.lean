/- The law MailBack of the given program holds for every input: called with whatever arguments, it returns true, and each argument reads behind the call as it read before. -/
import Derived.Test.YtgfnpcmehnjopaaDoorM2
import Derived.Test.YtgfnpcmehnjopaaDoorM8
import Derived.Test.YtgfnpcmehnjopaaDoorM14
import Derived.Test.YtgfnpcmehnjopaaDoorRows
import Derived.Test.YtgfnpcmehnjopaaDoorTie
import Derived.Test.YtgfnpcmehnjopaaDoorCards
import Derived.WalkKit
import Derived.Below
import Derived.Carry
import Derived.ProofKit
import Derived.OpenShut
import Derived.ShutString
import Derived.LaidMore
import Derived.Stop.Joined
import Derived.SevenTiedAt
namespace Go.Proofs.YtgfnpcmehnjopaaDoor.mailBack
open Go Go.ChangeShapes Go.WideShapes Go.ChangeAt Go.RowKit
set_option linter.unusedVariables false
set_option linter.unusedSimpArgs false

theorem own : ownKnob Tryd.prog.godebug = none := by kernel_rfl
theorem laidOut : laidOutB Tryd.prog = true := by kernel_rfl

theorem okWide_aggS {P : Program} {w : World} {r : Reach} {base : Nat} {t : TypeId} {v : Value} {fs : Array Field} (ht : P.underlying t = some (.struct fs)) (h : Value.okWide P w r base t v) : ∃ cs, v = .agg cs := by
  unfold Value.okWide at h
  rw [ht] at h
  obtain ⟨cs, rfl, _⟩ := h
  exact ⟨cs, rfl⟩
theorem Den.knA {W w : World} {r : Value} {ds : List D} (h : Den F0 [] w r (.agg (ds.map V.d))) : Den (FT W) [] w r (.agg (ds.map V.d)) := by
  obtain ⟨rs, rfl, e1, e2, e3⟩ := h.aggInv
  exact .agg e1 e2 fun i r v hr hv => by
    rw [List.getElem?_map] at hv
    obtain ⟨x, hx, rfl⟩ := Option.map_eq_some_iff.1 hv
    exact (e3 i r _ hr (by rw [List.getElem?_map, hx]; rfl)).kn
theorem rd_wr {H : Type} {enc : TypeId × Value → H} {w : World} {base : Nat} {held : Bool} : Rd enc Tryd.prog w base held 39 fun ds => ∃ l : List Wr, ds = [.sl 3 (wrl l)] :=
  Rd.row Wr.d Tryd.underlying39 (by kernel_rfl) (by decide) (Rd.struct Tryd.underlying89
    (Ss := [_, _, _]) ⟨rfl, Rd.string Tryd.underlying9, by show _ = _; kernel_rfl, Rd.string Tryd.underlying9, by show _ = _; kernel_rfl, Rd.bool Tryd.underlying4, by show _ = _; kernel_rfl⟩) fun ds h => by
    obtain ⟨a1, b1, rfl, ⟨k, rfl, _⟩, h1⟩ := h.cons
    obtain ⟨a2, b2, rfl, ⟨v, rfl, _⟩, h2⟩ := h1.cons
    obtain ⟨a3, b3, rfl, ⟨g, rfl, _⟩, h3⟩ := h2.cons
    obtain rfl := h3.nil
    exact ⟨⟨k, v, g⟩, rfl⟩
theorem rd_clk {H : Type} {enc : TypeId × Value → H} {w : World} {base : Nat} {held : Bool} : Rd enc Tryd.prog w base held 38 fun ds => ∃ c : Clk, ds = [.sc (.int .i64 c.x), .sc (.int .i64 c.y), .sc (.int .i64 c.z)] :=
  (Rd.array Tryd.underlying38 (n := 3) (k := 1) (by kernel_rfl) (by kernel_rfl) (Rd.int Tryd.underlying2)).mono fun ds h => by
    obtain ⟨a1, b1, rfl, ⟨x, rfl, _⟩, h1⟩ := h.cons
    obtain ⟨a2, b2, rfl, ⟨y, rfl, _⟩, h2⟩ := h1.cons
    obtain ⟨a3, b3, rfl, ⟨z, rfl, _⟩, h3⟩ := h2.cons
    obtain rfl := h3.nil
    exact ⟨⟨x, y, z⟩, rfl⟩
theorem rd_tx {H : Type} {enc : TypeId × Value → H} {w : World} {base : Nat} {held : Bool} : Rd enc Tryd.prog w base held 64 fun ds => ∃ t : Tx, ds = t.d :=
  (Rd.struct Tryd.underlying64 (Ss := [_, _, _, _]) ⟨rfl, Rd.int Tryd.underlying3, by show _ = _; kernel_rfl, Rd.int Tryd.underlying2, by show _ = _; kernel_rfl, rd_clk, by show _ = _; kernel_rfl, rd_wr, by show _ = _; kernel_rfl⟩).mono fun ds h => by
    obtain ⟨a1, e1, rfl, ⟨o, rfl, _⟩, h1⟩ := h.cons
    obtain ⟨a2, e2, rfl, ⟨s, rfl, _⟩, h2⟩ := h1.cons
    obtain ⟨a3, e3, rfl, ⟨c, rfl⟩, h3⟩ := h2.cons
    obtain ⟨a4, e4, rfl, ⟨w, rfl⟩, h4⟩ := h3.cons
    obtain rfl := h4.nil
    exact ⟨⟨o, s, c, w⟩, rfl⟩
theorem rd_txs {H : Type} {enc : TypeId × Value → H} {w : World} {base : Nat} {held : Bool} : Rd enc Tryd.prog w base held 57 fun ds => ∃ l : List Tx, ds = [.sl 6 (txs l)] :=
  Rd.row Tx.d Tryd.underlying57 (by kernel_rfl) (by decide) rd_tx fun ds h => h
theorem rd_msg {H : Type} {enc : TypeId × Value → H} {w : World} {base : Nat} {held : Bool} : Rd enc Tryd.prog w base held 77 fun ds => ∃ m : Msg, ds = [.sc (.int .i64 m.k), .sc (.int .i64 m.o), .sc (.int .i64 m.f), .sc (.int .i64 m.t), .sl 6 (txs m.l)] :=
  (Rd.struct Tryd.underlying77 (Ss := [_, _, _, _, _]) ⟨rfl, Rd.int Tryd.underlying3, by show _ = _; kernel_rfl, Rd.int Tryd.underlying3, by show _ = _; kernel_rfl, Rd.int Tryd.underlying2, by show _ = _; kernel_rfl, Rd.int Tryd.underlying2, by show _ = _; kernel_rfl, rd_txs, by show _ = _; kernel_rfl⟩).mono fun ds h => by
    obtain ⟨a1, b1, rfl, ⟨k, rfl, _⟩, h1⟩ := h.cons
    obtain ⟨a2, b2, rfl, ⟨o, rfl, _⟩, h2⟩ := h1.cons
    obtain ⟨a3, b3, rfl, ⟨f, rfl, _⟩, h3⟩ := h2.cons
    obtain ⟨a4, b4, rfl, ⟨t, rfl, _⟩, h4⟩ := h3.cons
    obtain ⟨a5, b5, rfl, ⟨l, rfl⟩, h5⟩ := h4.cons
    obtain rfl := h5.nil
    exact ⟨⟨k, o, f, t, l⟩, rfl⟩
theorem Den.sub_le {F : Fr} {φ : List Pl} {w : World} {r : Value} {ds : List D} (h : Den F φ w r (.agg (ds.map V.d))) {j k : Nat} {es : List (List D)} (hj : ds[j]? = some (.sl k es)) : es.length ≤ 9223372036854775807 := by
  obtain ⟨rs, rfl, e1, e2, e3⟩ := h.aggInv
  have hlt : j < rs.size := by
    have := (List.getElem?_eq_some_iff.1 hj).1
    rw [e1, List.length_map]; exact this
  exact (e3 j rs[j] (.d (.sl k es)) (Array.getElem?_eq_getElem hlt) (by rw [List.getElem?_map, hj]; rfl)).len_le
set_option maxRecDepth 100000 in
set_option maxHeartbeats 2000000 in
theorem lifted (os : Os) (started : os.Started) (H : Type) (enc : TypeId × Value → H) :
    ReturnsInHanded {} Tryd.checked os 8 .any (fun w args => (Rows.mailBackSpec.pre enc Tryd.prog Tryd.f8 [] false w args ∧ laidMetH Tryd.prog Rows.mailBackRow.laid w) ∧ sizedMet enc Tryd.prog Tryd.f8 (OpenSpec.ofChange Rows.mailBackSpec) false w args) (Rows.mailBackSpec.post enc Tryd.prog Tryd.f8 false true false false) := by
  refine returnsInHanded_of_change_and (C := Tryd.checked) (X := fun w _ => laidMetH Tryd.prog Rows.mailBackRow.laid w) (fun _ _ _ hh h => h.of_heap hh) own started (by kernel_rfl) Tryd.func8
    (ChangeSpec.witness_shaped (enc := enc) (C := Tryd.checked) (os := os) (X := fun w _ => laidMetH Tryd.prog Rows.mailBackRow.laid w) false (World.doorLaid Tryd.prog 400 os) #[.agg #[.int .i64 0, .int .i64 0, .int .i64 0, .int .i64 0, .slice none 0 0], .slice none 0 0] 8 rfl (World.shaped_of_RefB (by kernel_rfl) (by kernel_rfl)) (by kernel_rfl) (by kernel_rfl) (by kernel_rfl) (laidMetH_of_parts3 (fuel := 8) (laidMet_of_run' 8 (by kernel_rfl) (by kernel_rfl)) (by kernel_rfl) (by kernel_rfl))) ?_
  intro W base args ds gs before hval0 hW _ _ hL _
  have hval : ∀ (j : Nat) t v, Tryd.f8.params[j]? = some t → args[j]? = some v → Value.okWide Tryd.prog W .any base t v := hval0
  have hW' := hW
  obtain ⟨p, q, hA0, hV, rfl, hfz, hnd⟩ := hW
  have hA : DataW.TrodAll enc Tryd.prog W 0 (fun _ => true) true Tryd.f8.params.toList args.toList ds p := hA0
  rw [Tryd.params8] at hA hval
  obtain ⟨v0, vs0, d0, ds0, p0, q0, hargs, rfl, rfl, h0, r0⟩ := trodAll_cons hA
  obtain ⟨v1, vs1, d1, ds1, p1, q1, rfl, rfl, rfl, h1, r1⟩ := trodAll_cons r0
  obtain ⟨rfl, rfl, rfl⟩ := trodAll_nil r1
  obtain rfl : args = #[v0, v1] := by cases args; simp_all
  obtain ⟨rfl, rfl⟩ := trodVars_none hV
  have k0 := h0
  have lt0 : ∀ x ∈ p0, x.block < W.heap.size := by obtain ⟨m, hm⟩ := k0; exact DataW.trod_lt m _ _ _ hm
  obtain ⟨cs0, rfl⟩ := okWide_aggS Tryd.underlying77 (hval 0 77 v0 rfl rfl)
  obtain ⟨y0, ⟨m, em⟩, D0⟩ := Rd.argN (rd_msg) h0
  have k1 := h1
  have lt1 : ∀ x ∈ p1, x.block < W.heap.size := by obtain ⟨m, hm⟩ := k1; exact DataW.trod_lt m _ _ _ hm
  obtain ⟨a1, len1, cap1, rfl⟩ := okWide_slice Tryd.underlying23 (hval 1 23 v1 rfl rfl)
  obtain ⟨y1, ⟨b, hb⟩, D1⟩ := Rd.arg1 (Rd.bytes Tryd.underlying23 Tryd.underlying5 (by kernel_rfl)) h1 rfl
  clear hA0 hval0
  have ht := kt_tab (tab_of_laid hL)
  obtain rfl : y0 = _ := em
  obtain rfl : y1 = .sl 1 (bs b) := by simpa using hb
  refine (Sp.runT (mailback_s ht (awake13_s ht) m b (by have := Den.sub_le D0 (j := 4) rfl; rwa [txs_len] at this)) (.cons (Den.knA D0) (.cons (Den.kn D1) .nil))).mono ?_
  rintro e W' ⟨u, v, h', rfl, bel, ⟨F, φ, hd⟩, rfl, -⟩
  obtain ⟨rfl, -⟩ := hd.sc
  exact ⟨_, rfl, _, _, _, [], _, [], hW', (trodAll_cons_mk (shut_bool Tryd.underlying4 _) trodAll_mk0), (trodAll_cons_mk (Below.trod laidOut (by kernel_rfl) (of_decide_eq_true (by kernel_rfl)) k0 bel lt0) (trodAll_cons_mk (Below.trod laidOut (by kernel_rfl) (of_decide_eq_true (by kernel_rfl)) k1 bel lt1) trodAll_mk0)), (by first | rfl | (simp; done)), bel.frame _, fun h => by cases h⟩

theorem over : Rows.mailBackRow.holds Tryd.pinned (OpenSpec.ofChange Rows.mailBackSpec) :=
  OpenClaim.holds_of_wide 8 Tryd.f8 rfl rfl rfl rfl rfl rfl rfl ⟨rfl, rfl, rfl, rfl, rfl⟩ rfl rfl rfl rfl rfl (by kernel_rfl) Tryd.func8 (by kernel_rfl)
    (of_decide_eq_true (by kernel_rfl)) (by unfold Func.isWrapper; first | (rw [if_pos (by decide +kernel)]; kernel_rfl) | (rw [if_neg (by decide +kernel)]; exact ⟨rfl, rfl⟩))
    (fun os started H enc _ => lifted os started H enc)

/-- The statement. -/
theorem proved : Rows.MailBackSaid :=
  over
#print axioms proved

/-- The tied card. -/
theorem card : Rows.MailBackCardSaid :=
  Claim7.holds_tied_plain_at .later [] [.data] true (true, "0ade4416e34933b240847ba9878fb54900ffeca644053ce618a4409d63690e59") true
    proved (fun _ h => by cases h) (by kernel_rfl) (fun _ h => by cases h) mailBack_row_tie rfl ⟨rfl, rfl⟩ (by kernel_rfl) rfl
    (fun f fn hf hfn => by
      obtain rfl : f = 8 := Option.some.inj ((show Tryd.prog.funcNamed "packetboat/packetboatlaw13.MailBack" = some 8 by kernel_rfl).symm.trans hf) |>.symm
      obtain rfl : fn = Tryd.f8 := (Option.some.inj (Tryd.func8.symm.trans hfn)).symm
      exact ⟨by kernel_rfl, fun j t ht => by
        rw [Tryd.params8] at ht
        have hm : t ∈ [77, 23] := by simpa using Array.mem_of_getElem? ht
        have hall : ([77, 23].all fun u => !Tryd.prog.wantsStandIn u) = true := by kernel_rfl
        exact (show Tryd.prog.wantsStandIn t = false by simpa using List.all_eq_true.1 hall t hm)⟩)
    (by kernel_rfl)
#print axioms card
end Go.Proofs.YtgfnpcmehnjopaaDoor.mailBack
