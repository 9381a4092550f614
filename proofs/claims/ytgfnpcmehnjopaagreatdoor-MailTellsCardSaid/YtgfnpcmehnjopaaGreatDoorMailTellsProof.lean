/- The law MailTells of the given program holds for every input: called with whatever arguments, it returns true, and each argument reads behind the call as it read before. -/
import Derived.Test.YtgfnpcmehnjopaaGreatDoorT2
import Derived.Test.YtgfnpcmehnjopaaGreatDoorT8
import Derived.Test.YtgfnpcmehnjopaaGreatDoorT18
import Derived.Test.YtgfnpcmehnjopaaGreatDoorRows
import Derived.Test.YtgfnpcmehnjopaaGreatDoorTie
import Derived.Test.YtgfnpcmehnjopaaGreatDoorCards
import Derived.WalkKit
import Derived.Below
import Derived.Carry
import Derived.ProofKit
import Derived.OpenShut
import Derived.ShutString
import Derived.LaidMore
import Derived.Stop.Joined
import Derived.SevenTiedAt
namespace Go.Proofs.YtgfnpcmehnjopaaGreatDoor.mailTells
open Go Go.ChangeShapes Go.WideShapes Go.ChangeAt Go.RowKit
set_option linter.unusedVariables false
set_option linter.unusedSimpArgs false

theorem own : ownKnob Tryz.prog.godebug = none := by kernel_rfl
theorem laidOut : laidOutB Tryz.prog = true := by kernel_rfl

theorem okWide_aggS {P : Program} {w : World} {r : Reach} {base : Nat} {t : TypeId} {v : Value} {fs : Array Field} (ht : P.underlying t = some (.struct fs)) (h : Value.okWide P w r base t v) : ∃ cs, v = .agg cs := by
  unfold Value.okWide at h
  rw [ht] at h
  obtain ⟨cs, rfl, _⟩ := h
  exact ⟨cs, rfl⟩
theorem Den.knA {W w : World} {r : Value} {ds : List D} (h : Den F0 [] w r (.agg (ds.map V.d))) : Den (FT W) [] w r (.agg (ds.map V.d)) := by
  obtain ⟨rs, rfl, e1, e2, e3⟩ := h.aggInv
  exact .agg e1 e2 fun i r v hr hv => by
    rw [List.getElem?_map] at hv
    obtain ⟨x, hx, rfl⟩ := Option.map_eq_some_iff.1 hv
    exact (e3 i r _ hr (by rw [List.getElem?_map, hx]; rfl)).kn
theorem rd_wr {H : Type} {enc : TypeId × Value → H} {w : World} {base : Nat} {held : Bool} : Rd enc Tryz.prog w base held 46 fun ds => ∃ l : List Wr, ds = [.sl 3 (wrl l)] :=
  Rd.row Wr.d Tryz.underlying46 (by kernel_rfl) (by decide) (Rd.struct Tryz.underlying45
    (Ss := [_, _, _]) ⟨rfl, Rd.string Tryz.underlying9, by show _ = _; kernel_rfl, Rd.string Tryz.underlying9, by show _ = _; kernel_rfl, Rd.bool Tryz.underlying4, by show _ = _; kernel_rfl⟩) fun ds h => by
    obtain ⟨a1, b1, rfl, ⟨k, rfl, _⟩, h1⟩ := h.cons
    obtain ⟨a2, b2, rfl, ⟨v, rfl, _⟩, h2⟩ := h1.cons
    obtain ⟨a3, b3, rfl, ⟨g, rfl, _⟩, h3⟩ := h2.cons
    obtain rfl := h3.nil
    exact ⟨⟨k, v, g⟩, rfl⟩
theorem rd_clk {H : Type} {enc : TypeId × Value → H} {w : World} {base : Nat} {held : Bool} : Rd enc Tryz.prog w base held 48 fun ds => ∃ c : Clk, ds = [.sc (.int .i64 c.x), .sc (.int .i64 c.y), .sc (.int .i64 c.z)] :=
  (Rd.array Tryz.underlying48 (n := 3) (k := 1) (by kernel_rfl) (by kernel_rfl) (Rd.int Tryz.underlying2)).mono fun ds h => by
    obtain ⟨a1, b1, rfl, ⟨x, rfl, _⟩, h1⟩ := h.cons
    obtain ⟨a2, b2, rfl, ⟨y, rfl, _⟩, h2⟩ := h1.cons
    obtain ⟨a3, b3, rfl, ⟨z, rfl, _⟩, h3⟩ := h2.cons
    obtain rfl := h3.nil
    exact ⟨⟨x, y, z⟩, rfl⟩
theorem rd_tx {H : Type} {enc : TypeId × Value → H} {w : World} {base : Nat} {held : Bool} : Rd enc Tryz.prog w base held 50 fun ds => ∃ t : Tx, ds = t.d :=
  (Rd.struct Tryz.underlying50 (Ss := [_, _, _, _]) ⟨rfl, Rd.int Tryz.underlying3, by show _ = _; kernel_rfl, Rd.int Tryz.underlying2, by show _ = _; kernel_rfl, rd_clk, by show _ = _; kernel_rfl, rd_wr, by show _ = _; kernel_rfl⟩).mono fun ds h => by
    obtain ⟨a1, e1, rfl, ⟨o, rfl, _⟩, h1⟩ := h.cons
    obtain ⟨a2, e2, rfl, ⟨s, rfl, _⟩, h2⟩ := h1.cons
    obtain ⟨a3, e3, rfl, ⟨c, rfl⟩, h3⟩ := h2.cons
    obtain ⟨a4, e4, rfl, ⟨w, rfl⟩, h4⟩ := h3.cons
    obtain rfl := h4.nil
    exact ⟨⟨o, s, c, w⟩, rfl⟩
theorem rd_txs {H : Type} {enc : TypeId × Value → H} {w : World} {base : Nat} {held : Bool} : Rd enc Tryz.prog w base held 22 fun ds => ∃ l : List Tx, ds = [.sl 6 (txs l)] :=
  Rd.row Tx.d Tryz.underlying22 (by kernel_rfl) (by decide) rd_tx fun ds h => h
theorem rd_msg {H : Type} {enc : TypeId × Value → H} {w : World} {base : Nat} {held : Bool} : Rd enc Tryz.prog w base held 24 fun ds => ∃ m : Msg, ds = [.sc (.int .i64 m.k), .sc (.int .i64 m.o), .sc (.int .i64 m.f), .sc (.int .i64 m.t), .sl 6 (txs m.l)] :=
  (Rd.struct Tryz.underlying24 (Ss := [_, _, _, _, _]) ⟨rfl, Rd.int Tryz.underlying3, by show _ = _; kernel_rfl, Rd.int Tryz.underlying3, by show _ = _; kernel_rfl, Rd.int Tryz.underlying2, by show _ = _; kernel_rfl, Rd.int Tryz.underlying2, by show _ = _; kernel_rfl, rd_txs, by show _ = _; kernel_rfl⟩).mono fun ds h => by
    obtain ⟨a1, b1, rfl, ⟨k, rfl, _⟩, h1⟩ := h.cons
    obtain ⟨a2, b2, rfl, ⟨o, rfl, _⟩, h2⟩ := h1.cons
    obtain ⟨a3, b3, rfl, ⟨f, rfl, _⟩, h3⟩ := h2.cons
    obtain ⟨a4, b4, rfl, ⟨t, rfl, _⟩, h4⟩ := h3.cons
    obtain ⟨a5, b5, rfl, ⟨l, rfl⟩, h5⟩ := h4.cons
    obtain rfl := h5.nil
    exact ⟨⟨k, o, f, t, l⟩, rfl⟩
theorem Den.sub_le {F : Fr} {φ : List Pl} {w : World} {r : Value} {ds : List D} (h : Den F φ w r (.agg (ds.map V.d))) {j k : Nat} {es : List (List D)} (hj : ds[j]? = some (.sl k es)) : es.length ≤ 9223372036854775807 := by
  obtain ⟨rs, rfl, e1, e2, e3⟩ := h.aggInv
  have hlt : j < rs.size := by
    have := (List.getElem?_eq_some_iff.1 hj).1
    rw [e1, List.length_map]; exact this
  exact (e3 j rs[j] (.d (.sl k es)) (Array.getElem?_eq_getElem hlt) (by rw [List.getElem?_map, hj]; rfl)).len_le
set_option maxRecDepth 100000 in
set_option maxHeartbeats 2000000 in
theorem lifted (os : Os) (started : os.Started) (H : Type) (enc : TypeId × Value → H) :
    ReturnsInHanded {} Tryz.checked os 3 .any (fun w args => (Rows.mailTellsSpec.pre enc Tryz.prog Tryz.f3 [] false w args ∧ laidMetH Tryz.prog Rows.mailTellsRow.laid w) ∧ sizedMet enc Tryz.prog Tryz.f3 (OpenSpec.ofChange Rows.mailTellsSpec) false w args) (Rows.mailTellsSpec.post enc Tryz.prog Tryz.f3 false true false false) := by
  refine returnsInHanded_of_change_and (C := Tryz.checked) (X := fun w _ => laidMetH Tryz.prog Rows.mailTellsRow.laid w) (fun _ _ _ hh h => h.of_heap hh) own started (by kernel_rfl) Tryz.func3
    (ChangeSpec.witness_shaped (enc := enc) (C := Tryz.checked) (os := os) (X := fun w _ => laidMetH Tryz.prog Rows.mailTellsRow.laid w) false (World.doorLaid Tryz.prog 400 os) #[.agg #[.int .i64 0, .int .i64 0, .int .i64 0, .int .i64 0, .slice none 0 0], .agg #[.int .i64 0, .int .i64 0, .int .i64 0, .int .i64 0, .slice none 0 0], .slice none 0 0] 8 rfl (World.shaped_of_RefB (by kernel_rfl) (by kernel_rfl)) (by kernel_rfl) (by kernel_rfl) (by kernel_rfl) (laidMetH_of_parts3 (fuel := 8) (laidMet_of_run' 8 (by kernel_rfl) (by kernel_rfl)) (by kernel_rfl) (by kernel_rfl))) ?_
  intro W base args ds gs before hval0 hW _ _ hL _
  have hval : ∀ (j : Nat) t v, Tryz.f3.params[j]? = some t → args[j]? = some v → Value.okWide Tryz.prog W .any base t v := hval0
  have hW' := hW
  obtain ⟨p, q, hA0, hV, rfl, hfz, hnd⟩ := hW
  have hA : DataW.TrodAll enc Tryz.prog W 0 (fun _ => true) true Tryz.f3.params.toList args.toList ds p := hA0
  rw [Tryz.params3] at hA hval
  obtain ⟨v0, vs0, d0, ds0, p0, q0, hargs, rfl, rfl, h0, r0⟩ := trodAll_cons hA
  obtain ⟨v1, vs1, d1, ds1, p1, q1, rfl, rfl, rfl, h1, r1⟩ := trodAll_cons r0
  obtain ⟨v2, vs2, d2, ds2, p2, q2, rfl, rfl, rfl, h2, r2⟩ := trodAll_cons r1
  obtain ⟨rfl, rfl, rfl⟩ := trodAll_nil r2
  obtain rfl : args = #[v0, v1, v2] := by cases args; simp_all
  obtain ⟨rfl, rfl⟩ := trodVars_none hV
  have k0 := h0
  have lt0 : ∀ x ∈ p0, x.block < W.heap.size := by obtain ⟨m, hm⟩ := k0; exact DataW.trod_lt m _ _ _ hm
  obtain ⟨cs0, rfl⟩ := okWide_aggS Tryz.underlying24 (hval 0 24 v0 rfl rfl)
  obtain ⟨y0, ⟨m, em⟩, D0⟩ := Rd.argN (rd_msg) h0
  have k1 := h1
  have lt1 : ∀ x ∈ p1, x.block < W.heap.size := by obtain ⟨m, hm⟩ := k1; exact DataW.trod_lt m _ _ _ hm
  obtain ⟨cs1, rfl⟩ := okWide_aggS Tryz.underlying24 (hval 1 24 v1 rfl rfl)
  obtain ⟨y1, ⟨n, en⟩, D1⟩ := Rd.argN (rd_msg) h1
  have k2 := h2
  have lt2 : ∀ x ∈ p2, x.block < W.heap.size := by obtain ⟨m, hm⟩ := k2; exact DataW.trod_lt m _ _ _ hm
  obtain ⟨a2, len2, cap2, rfl⟩ := okWide_slice Tryz.underlying25 (hval 2 25 v2 rfl rfl)
  obtain ⟨y2, ⟨b, hb⟩, D2⟩ := Rd.arg1 (Rd.bytes Tryz.underlying25 Tryz.underlying5 (by kernel_rfl)) h2 rfl
  clear hA0 hval0
  have ht := kt_tab (tab_of_laid hL)
  obtain rfl : y0 = _ := em
  obtain rfl : y1 = _ := en
  obtain rfl : y2 = .sl 1 (bs b) := by simpa using hb
  refine (Sp.runT (mailtells_s ht (awake13_s ht) m n b (by have := Den.sub_le D0 (j := 4) rfl; rwa [txs_len] at this) (by have := Den.sub_le D1 (j := 4) rfl; rwa [txs_len] at this)) (.cons (Den.knA D0) (.cons (Den.knA D1) (.cons (Den.kn D2) .nil)))).mono ?_
  rintro e W' ⟨u, v, h', rfl, bel, ⟨F, φ, hd⟩, rfl, -⟩
  obtain ⟨rfl, -⟩ := hd.sc
  exact ⟨_, rfl, _, _, _, [], _, [], hW', (trodAll_cons_mk (shut_bool Tryz.underlying4 _) trodAll_mk0), (trodAll_cons_mk (Below.trod laidOut (by kernel_rfl) (of_decide_eq_true (by kernel_rfl)) k0 bel lt0) (trodAll_cons_mk (Below.trod laidOut (by kernel_rfl) (of_decide_eq_true (by kernel_rfl)) k1 bel lt1) (trodAll_cons_mk (Below.trod laidOut (by kernel_rfl) (of_decide_eq_true (by kernel_rfl)) k2 bel lt2) trodAll_mk0))), (by first | rfl | (simp; done)), bel.frame _, fun h => by cases h⟩

theorem over : Rows.mailTellsRow.holds Tryz.pinned (OpenSpec.ofChange Rows.mailTellsSpec) :=
  OpenClaim.holds_of_wide 3 Tryz.f3 rfl rfl rfl rfl rfl rfl rfl ⟨rfl, rfl, rfl, rfl, rfl⟩ rfl rfl rfl rfl rfl (by kernel_rfl) Tryz.func3 (by kernel_rfl)
    (of_decide_eq_true (by kernel_rfl)) (by unfold Func.isWrapper; first | (rw [if_pos (by decide +kernel)]; kernel_rfl) | (rw [if_neg (by decide +kernel)]; exact ⟨rfl, rfl⟩))
    (fun os started H enc _ => lifted os started H enc)

/-- The statement. -/
theorem proved : Rows.MailTellsSaid :=
  over
#print axioms proved

/-- The tied card. -/
theorem card : Rows.MailTellsCardSaid :=
  Claim7.holds_tied_plain_at .later [] [.data] true (true, "2e0544664e80ed8b89d4ece0051e4dfef4f04f7a7d7a00fb8595aa00b4a20070") true
    proved (fun _ h => by cases h) (by kernel_rfl) (fun _ h => by cases h) mailTells_row_tie rfl ⟨rfl, rfl⟩ (by kernel_rfl) rfl
    (fun f fn hf hfn => by
      obtain rfl : f = 3 := Option.some.inj ((show Tryz.prog.funcNamed "packetboat/packetboatlaw13.MailTells" = some 3 by kernel_rfl).symm.trans hf) |>.symm
      obtain rfl : fn = Tryz.f3 := (Option.some.inj (Tryz.func3.symm.trans hfn)).symm
      exact ⟨by kernel_rfl, fun j t ht => by
        rw [Tryz.params3] at ht
        have hm : t ∈ [24, 24, 25] := by simpa using Array.mem_of_getElem? ht
        have hall : ([24, 24, 25].all fun u => !Tryz.prog.wantsStandIn u) = true := by kernel_rfl
        exact (show Tryz.prog.wantsStandIn t = false by simpa using List.all_eq_true.1 hall t hm)⟩)
    (by kernel_rfl)
#print axioms card
end Go.Proofs.YtgfnpcmehnjopaaGreatDoor.mailTells
