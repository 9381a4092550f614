/- Parts of the proofs, joined: FrmA2. -/
import Derived.Test.YtgfnpcmehnjopaaDoorB2
import Derived.Test.YtgfnpcmehnjopaaDoorB7
import Derived.Test.YtgfnpcmehnjopaaDoorB8
import Derived.Test.YtgfnpcmehnjopaaDoorB11
namespace Go.Proofs.YtgfnpcmehnjopaaDoor
open Go Go.RowKit
set_option linter.unusedVariables false
set_option linter.unusedSimpArgs false
def KW2 (W : World) : Nat → Obj → Prop := fun b x => (b = 1 ∨ b = 0) ∧ W.heap[b]? = some x
abbrev FT2 (W : World) : Fr := ⟨fun _ _ => False, KW2 W⟩
theorem DenD.kn2 {F F' : Fr} {φ : List Pl} {w : World} {r : Value} {x : D} (hs : F'.shut = F.shut) (h : DenD F φ w r x) : DenD F' φ w r x := by
  induction h with
  | sc h => exact .sc h
  | nil => exact .nil
  | sl c hn hcap hk hc hd ih => exact .sl c hn hcap hk (fun i j hi hj => by have := hc i j hi hj; unfold cellP prot at this ⊢; rw [hs]; exact this) ih
theorem Den.kn2 {W w : World} {φ : List Pl} {r : Value} {x : D} (h : Den F0 φ w r (.d x)) : Den (FT2 W) φ w r (.d x) := by
  cases h with
  | d h => exact .d (DenD.kn2 (F := F0) rfl h)
theorem kt_tab2 {W : World} (ht : Tab W) : KT (KW2 W) := by
  have h0 := ht 0 (by decide)
  unfold World.cell? at h0
  dsimp only at h0
  split at h0
  · rename_i arr T fr hb
    refine ⟨arr, T, fr, ⟨.inl rfl, hb⟩, fun i hi => ?_⟩
    have := ht i hi
    unfold World.cell? at this
    dsimp only at this
    rw [hb] at this
    simpa using this
  · cases h0
theorem tt_tab2 {W : World} (ht : TabT W) : TT (KW2 W) := by
  have h0 := ht 0 (by decide)
  unfold World.cell? at h0
  dsimp only at h0
  split at h0
  · rename_i arr T fr hb
    refine ⟨arr, T, fr, ⟨.inr rfl, hb⟩, fun i hi => ?_⟩
    have := ht i hi
    unfold World.cell? at this
    dsimp only at this
    rw [hb] at this
    simpa using this
  · cases h0
theorem Inv.kw2 (W : World) : Inv (FT2 W) [] W [] :=
  ⟨rfl, fun i p o h => by simp at h, fun i j p q b h => by simp at h, fun b o h => h.elim, fun i p b o h => by simp at h, fun b x h => ⟨h.2, fun i p h => by simp at h⟩⟩
theorem Sp.runT2 {P : Program} {f : FuncId} {vs : List V} {R : V → List Ho → Prop} {w : World} {args : Array Value} (hs : Sp P (KW2 w) f vs [] R) (hd : DenL (FT2 w) [] w args.toList vs) :
    Calls P f args w fun e w' => ∃ u v h', e = .returned u ∧ Below w.heap.size w w' ∧ (∃ F φ, Den F φ w' u v) ∧ R v h' := by
  refine (hs _ _ w args rfl (Inv.kw2 w) hd).mono ?_
  rintro e w' ⟨u, φ', v, h', rfl, he, hi, hd, hr⟩
  exact ⟨u, v, h', rfl, he.below, ⟨_, _, hd⟩, hr⟩
end Go.Proofs.YtgfnpcmehnjopaaDoor
