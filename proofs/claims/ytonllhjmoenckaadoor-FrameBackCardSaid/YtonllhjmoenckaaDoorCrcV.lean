/- The check words, told by values, where the table of sums is known. -/
import Derived.Test.YtonllhjmoenckaaDoorVsV
import Derived.Test.YtonllhjmoenckaaDoorVsX
import Derived.Test.YtonllhjmoenckaaDoorVsY
import Derived.Test.YtonllhjmoenckaaDoorCrcM
namespace Go.Proofs.YtonllhjmoenckaaDoor
open Go Go.RowKit
set_option linter.unusedVariables false
set_option linter.unusedSimpArgs false
variable {P : Program} {K : Nat → Obj → Prop}

/-- What is known holds the table of sums, in the first block. -/
def KT (K : Nat → Obj → Prop) : Prop := ∃ (arr : Array Value) (T : TypeId) (fr : Nat × Nat), K 1 (.cells arr T fr) ∧ ∀ i : UInt32, i.toNat < 16 → arr[(U i).toNat]? = some (.int .u32 (U (four i)))
def Knw (K : Nat → Obj → Prop) (w : World) : Prop := ∀ b x, K b x → w.heap[b]? = some x
theorem KT.tab {w : World} (h : KT K) (hk : Knw K w) : Tab w := fun i hi => by
  obtain ⟨arr, T, fr, h1, h2⟩ := h
  exact (cell_of w _ _ _).2 ⟨arr, T, fr, hk _ _ h1, h2 i hi⟩
theorem Inv.knw {F : Fr} {φ : List Pl} {w : World} {h : List Ho} (hi : Inv F φ w h) (hK : F.known = K) : Knw K w := fun b x hx => (hi.frK b x (by rw [hK]; exact hx)).1
theorem Sp.ofVK {f : FuncId} {vs : List V} {h : List Ho} {r : Value} {v : V} (hv : ∀ (F : Fr) (φ : List Pl) (w : World), Den F φ w r v)
    (hc : ∀ (F : Fr) (φ : List Pl) (w : World) (args : Array Value), Knw K w → DenL F φ w args.toList vs → Calls P f args w (RetV w r)) : Sp P K f vs h fun u hh => u = v ∧ hh = h := by
  intro F φ w args hK hi hd
  refine (hc F φ w args (hi.knw hK) hd).mono ?_
  rintro e w' ⟨rfl, bel⟩
  exact ⟨r, φ, v, h, rfl, .more bel.size (fun b hb => bel.block b hb) (io_below bel), hi.more bel.size (fun b hb => bel.block b hb) (io_below bel), hv F φ w', rfl, rfl⟩
theorem Sp.ofBK {f : FuncId} {vs : List V} {h : List Ho} {l : List UInt8}
    (hc : ∀ (F : Fr) (φ : List Pl) (w : World) (args : Array Value), Knw K w → DenL F φ w args.toList vs → Calls P f args w (RetB w l)) : Sp P K f vs h fun u hh => u = .sl 1 (bs l) ∧ hh = h := by
  intro F φ w args hK hi hd
  refine (hc F φ w args (hi.knw hK) hd).mono ?_
  rintro e w' ⟨u, rfl, ho, bel⟩
  exact ⟨_, φ, _, h, rfl, .more bel.size (fun b hb => bel.block b hb) (io_below bel), hi.more bel.size (fun b hb => bel.block b hb) (io_below bel), .d (Den.ofOwn hi bel.size ho), rfl, rfl⟩
theorem Sp.ofBEK {f : FuncId} {vs : List V} {h : List Ho} {l : List UInt8} {n : Int}
    (hc : ∀ (F : Fr) (φ : List Pl) (w : World) (args : Array Value), Knw K w → DenL F φ w args.toList vs → Calls P f args w (RetBE w l n)) : Sp P K f vs h fun u hh => u = .tup [.sl 1 (bs l), .sc (.int .i64 n)] ∧ hh = h := by
  intro F φ w args hK hi hd
  refine (hc F φ w args (hi.knw hK) hd).mono ?_
  rintro e w' ⟨u, rfl, ho, bel⟩
  refine ⟨_, φ, _, h, rfl, .more bel.size (fun b hb => bel.block b hb) (io_below bel), hi.more bel.size (fun b hb => bel.block b hb) (io_below bel), ?_, rfl, rfl⟩
  refine .tup rfl fun i r v hr hv => ?_
  match i, hr, hv with
  | 0, hr, hv => simp at hr hv; subst hr hv; exact .d (Den.ofOwn hi bel.size ho)
  | 1, hr, hv => simp at hr hv; subst hr hv; exact .d (.sc rfl)

theorem bclone_s (l : List UInt8) (hl : l.length ≤ 1000000000) (h : List Ho) : Sp Tryd.prog K 41 [.sl 1 (bs l)] h fun u hh => u = .sl 1 (bs l) ∧ hh = h :=
  .ofB fun F φ w args hd => by
    obtain ⟨r, rfl, h1⟩ := args1 hd
    exact clone_c r l w (den_in h1).sb (by omega)
theorem turn_s (l : List UInt8) (at_ : Int) (m : UInt32) (hl : l.length ≤ 1000000000) (ha : -9223372036854775808 ≤ at_) (hb : at_ ≤ 9223372036854775807) (h : List Ho) : Sp Tryd.prog K 23 [.sl 1 (bs l), .sc (.int .i64 at_), .sc (.int .u32 (U m))] h fun u hh => u = .sl 1 (bs (turnF at_ m l)) ∧ hh = h :=
  .ofB fun F φ w args hd => by
    obtain ⟨r, s, t, rfl, h1, h2, h3⟩ := args3 hd
    rw [h2.sc.1, h3.sc.1]
    exact turn_c r l at_ m w (den_in h1).sb hl ha hb
theorem seal_s (hK : KT K) (l : List UInt8) (hl : l.length ≤ 1000000000) (h : List Ho) : Sp Tryd.prog K 36 [.sl 1 (bs l)] h fun u hh => u = .sl 1 (bs (sealF l)) ∧ hh = h :=
  .ofBK fun F φ w args hk hd => by
    obtain ⟨r, rfl, h1⟩ := args1 hd
    exact seal_c r l w (hK.tab hk) (den_in h1).sb hl
theorem open_s (hK : KT K) (l : List UInt8) (hl : l.length ≤ 1000000000) (h : List Ho) : Sp Tryd.prog K 40 [.sl 1 (bs l)] h fun u hh => u = .tup [.sl 1 (bs (openF l).1), .sc (.int .i64 (openF l).2)] ∧ hh = h :=
  .ofBEK fun F φ w args hk hd => by
    obtain ⟨r, rfl, h1⟩ := args1 hd
    exact open_c r l w (hK.tab hk) (den_in h1).sb hl
theorem rseal_s (l : List UInt8) (hl : l.length ≤ 1000000000) (h : List Ho) : Sp Tryd.prog K 38 [.sl 1 (bs l)] h fun u hh => u = .sl 1 (bs (sealF l)) ∧ hh = h :=
  .ofB fun F φ w args hd => by
    obtain ⟨r, rfl, h1⟩ := args1 hd
    rw [← rseal_seal]
    exact rseal_c r l w (den_in h1).sb hl
theorem turnF_len (at_ : Int) (m : UInt32) (l : List UInt8) : (turnF at_ m l).length = l.length := turnN_len at_ m l 32
theorem sealF_len (l : List UInt8) : (sealF l).length = l.length + 4 := by simp [sealF, tail4]

/-! The runner's own words for the check words. -/
theorem Wk.toD {v : V} {x : D} {vs vs' : List V} (e : toD v = some x) (h : Wk vs vs') : Wk (v :: vs) (.d x :: vs') := by
  cases v <;> simp only [Proofs.YtonllhjmoenckaaDoor.toD, Option.some.injEq, reduceCtorEq] at e
  · subst e; exact .same h
  · subst e; exact .own h
  · subst e; exact .full h
/-- A slice's bytes. -/
def bytesV (v : V) : Option (List UInt8) := match toD v with
  | some (.sl 1 es) => unbs es
  | _ => none
theorem bytesV_wk {v : V} {l : List UInt8} (h : bytesV v = some l) {vs vs' : List V} (hw : Wk vs vs') : Wk (v :: vs) (.sl 1 (bs l) :: vs') := by
  unfold bytesV at h
  split at h
  · rename_i es he
    have hb := unbs_bs h
    subst hb
    exact Wk.toD he hw
  · cases h
def crcX : Runner := fun f vs h =>
  if f = 23 then match vs with
    | [v, .d (.sc (.int .i64 a)), .d (.sc (.int .u32 m))] => match bytesV v with
      | some l => if l.length ≤ 1000000000 ∧ -9223372036854775808 ≤ a ∧ a ≤ 9223372036854775807 ∧ U (UInt32.ofNat m.toNat) = m then some (.sl 1 (bs (turnF a (UInt32.ofNat m.toNat) l)), h) else none
      | none => none
    | _ => none
  else if f = 36 then match vs with
    | [v] => match bytesV v with
      | some l => if l.length ≤ 1000000000 then some (.sl 1 (bs (sealF l)), h) else none
      | none => none
    | _ => none
  else if f = 40 then match vs with
    | [v] => match bytesV v with
      | some l => if l.length ≤ 1000000000 then some (.tup [.sl 1 (bs (openF l).1), .sc (.int .i64 (openF l).2)], h) else none
      | none => none
    | _ => none
  else none
theorem crcX_ok (hK : KT K) : Right Tryd.prog K crcX := fun f vs h v h' hx => by
  unfold crcX at hx
  split at hx
  · rename_i hf
    subst hf
    split at hx
    · rename_i v0 a m
      split at hx
      · rename_i l hl
        split at hx
        · rename_i hc
          obtain ⟨h1, h2, h3, h4⟩ := hc
          cases hx
          have hs := turn_s (K := K) l a (UInt32.ofNat m.toNat) h1 h2 h3 h
          rw [h4] at hs
          exact ⟨Tryd.call23, hs.wk (bytesV_wk hl Wk.refl)⟩
        · cases hx
      · cases hx
    · cases hx
  split at hx
  · rename_i hf
    subst hf
    split at hx
    · split at hx
      · rename_i l hl
        split at hx
        · rename_i hc
          cases hx
          exact ⟨Tryd.call36, (seal_s hK l hc h).wk (bytesV_wk hl Wk.refl)⟩
        · cases hx
      · cases hx
    · cases hx
  split at hx
  · rename_i hf
    subst hf
    split at hx
    · split at hx
      · rename_i l hl
        split at hx
        · rename_i hc
          cases hx
          exact ⟨Tryd.call40, (open_s hK l hc h).wk (bytesV_wk hl Wk.refl)⟩
        · cases hx
      · cases hx
    · cases hx
  · cases hx
end Go.Proofs.YtonllhjmoenckaaDoor
