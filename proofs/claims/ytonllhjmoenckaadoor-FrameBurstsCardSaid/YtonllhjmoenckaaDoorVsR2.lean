/- What came in, read by its type: rows of bytes, of texts, of numbers, of structs; how long a row is. No program stands here. -/
import Derived.Test.YtonllhjmoenckaaDoorVsR
import Derived.Test.YtonllhjmoenckaaDoorVsW
namespace Go.Proofs.YtonllhjmoenckaaDoor
open Go Go.RowKit
set_option linter.unusedVariables false
set_option linter.unusedSimpArgs false

theorem DenD.len_le {F : Fr} {φ : List Pl} {w : World} {r : Value} {k : Nat} {es : List (List D)} (h : DenD F φ w r (.sl k es)) : es.length ≤ 9223372036854775807 := by
  cases h with
  | nil => simp
  | sl c hn hcap hk hc hd => omega
theorem Den.len_le {F : Fr} {φ : List Pl} {w : World} {r : Value} {k : Nat} {es : List (List D)} (h : Den F φ w r (.d (.sl k es))) : es.length ≤ 9223372036854775807 := by
  cases h with
  | d h => exact h.len_le
/-- Each of a row is told by something. -/
theorem all_ex {α : Type} {f : α → List D} : ∀ es : List (List D), (∀ x ∈ es, ∃ a, x = f a) → ∃ l : List α, es = l.map f
  | [], _ => ⟨[], rfl⟩
  | x :: es, h => by
    obtain ⟨a, rfl⟩ := h x (by simp)
    obtain ⟨l, rfl⟩ := all_ex es fun y hy => h y (by simp [hy])
    exact ⟨a :: l, rfl⟩
section
variable {H : Type} {enc : TypeId × Value → H} {P : Program} {w : World} {base : Nat} {held : Bool}
theorem Rd.bytes {t e : TypeId} (ht : P.underlying t = some (.slice e)) (he : P.underlying e = some (.int .u8)) (hk : P.cellsOf e = 1) : Rd enc P w base held t fun ds => ∃ l : List UInt8, ds = [.sl 1 (bs l)] :=
  (Rd.slice ht hk (by decide) (Rd.int he)).mono fun ds ⟨es, h1, h2⟩ => by
    obtain ⟨l, rfl⟩ := all_ex (f := fun b : UInt8 => [D.sc (.int .u8 b.toNat)]) es fun x hx => by
      obtain ⟨⟨n, rfl, hw⟩, _⟩ := h2 x hx
      have hb := bounds_u8 hw
      refine ⟨UInt8.ofNat n.toNat, ?_⟩
      have : ((UInt8.ofNat n.toNat).toNat : Int) = n := by rw [UInt8.toNat_ofNat']; omega
      rw [this]
    exact ⟨l, h1⟩
/-- A row of elements, each told by something. -/
theorem Rd.row {t e : TypeId} {k : Nat} {S : List D → Prop} {α : Type} (f : α → List D) (ht : P.underlying t = some (.slice e)) (hk : P.cellsOf e = k) (h0 : 0 < k) (he : Rd enc P w base held e S) (hf : ∀ ds, S ds → ∃ a, ds = f a) : Rd enc P w base held t fun ds => ∃ l : List α, ds = [.sl k (l.map f)] :=
  (Rd.slice ht hk h0 he).mono fun ds ⟨es, h1, h2⟩ => by
    obtain ⟨l, rfl⟩ := all_ex es fun x hx => hf x (h2 x hx).1
    exact ⟨l, h1⟩
theorem Parts.nil {ds : List D} (h : Parts [] ds) : ds = [] := h
theorem Parts.cons {S : List D → Prop} {Ss : List (List D → Prop)} {ds : List D} (h : Parts (S :: Ss) ds) : ∃ a b, ds = a ++ b ∧ S a ∧ Parts Ss b := h
end
end Go.Proofs.YtonllhjmoenckaaDoor
