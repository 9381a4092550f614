/- Arguments, one by one; contracts that tell a value alone. No program stands here. -/
import Derived.Test.YtonllhjmoenckaaVsTy
import Derived.Test.YtonllhjmoenckaaVsW
namespace Go.Proofs.Ytonllhjmoenckaa
section
open Go Go.RowKit
set_option linter.unusedVariables false
set_option linter.unusedSimpArgs false
variable {F : Fr} {φ : List Pl} {w : World}
theorem den_tup {rs : Array Value} {vs : List V} (h : DenL F φ w rs.toList vs) : Den F φ w (.tuple rs) (.tup vs) :=
  .tup (by simpa using h.length) fun i r v hr hv => h.get i r v (by simpa using hr) hv
theorem args1 {args : Array Value} {a : V} (h : DenL F φ w args.toList [a]) : ∃ r, args = #[r] ∧ Den F φ w r a := by
  obtain ⟨l⟩ := args
  cases h with
  | cons h1 h => cases h; exact ⟨_, rfl, h1⟩
theorem args2 {args : Array Value} {a b : V} (h : DenL F φ w args.toList [a, b]) : ∃ r s, args = #[r, s] ∧ Den F φ w r a ∧ Den F φ w s b := by
  obtain ⟨l⟩ := args
  cases h with
  | cons h1 h =>
    cases h with
    | cons h2 h => cases h; exact ⟨_, _, rfl, h1, h2⟩
theorem args3 {args : Array Value} {a b c : V} (h : DenL F φ w args.toList [a, b, c]) : ∃ r s t, args = #[r, s, t] ∧ Den F φ w r a ∧ Den F φ w s b ∧ Den F φ w t c := by
  obtain ⟨l⟩ := args
  cases h with
  | cons h1 h =>
    cases h with
    | cons h2 h => cases h with
      | cons h3 h => cases h; exact ⟨_, _, _, rfl, h1, h2, h3⟩
theorem args0 {args : Array Value} (h : DenL F φ w args.toList []) : args = #[] := by
  obtain ⟨l⟩ := args
  cases h; rfl
theorem den_in {r : Value} {x : D} (h : Den F φ w r (.d x)) : DenD F φ w r x := by cases h; assumption

/-- A call whose contract tells its value alone. -/
theorem Sp.to {P : Program} {K : Nat → Obj → Prop} {f : FuncId} {vs : List V} {h : List Ho} {v : V} {R : V → List Ho → Prop} (hs : Sp P K f vs h fun u hh => u = v ∧ hh = h) (hr : R v h) : Sp P K f vs h R :=
  hs.mono fun u hh ⟨e1, e2⟩ => by rw [e1, e2]; exact hr
/-- The same, its value told by an equation. -/
theorem Sp.eq {P : Program} {K : Nat → Obj → Prop} {f : FuncId} {vs : List V} {h : List Ho} {v v' : V} (hs : Sp P K f vs h fun u hh => u = v ∧ hh = h) (e : v = v') : Sp P K f vs h fun u hh => u = v' ∧ hh = h := by rw [← e]; exact hs
/-- Numbers without a sign as words. -/
theorem w_of {m : Int} (h0 : 0 ≤ m) (h1 : m < 18446744073709551616) : ∃ n : UInt64, m = W n ∧ n.toNat = m.toNat := by
  have e : (UInt64.ofNat m.toNat).toNat = m.toNat := by
    rw [UInt64.toNat_ofNat']; omega
  exact ⟨UInt64.ofNat m.toNat, by unfold W; rw [e]; omega, e⟩
theorem u_of {m : Int} (h0 : 0 ≤ m) (h1 : m < 4294967296) : ∃ n : UInt32, m = U n ∧ n.toNat = m.toNat := by
  have e : (UInt32.ofNat m.toNat).toNat = m.toNat := by
    rw [UInt32.toNat_ofNat']; omega
  exact ⟨UInt32.ofNat m.toNat, by unfold U; rw [e]; omega, e⟩
end

section
open Go Go.RowKit
set_option linter.unusedVariables false
set_option linter.unusedSimpArgs false
variable {F : Fr} {P : Program} {K : Nat → Obj → Prop}

theorem Sp.ofBO {f : FuncId} {vs : List V} {h : List Ho} {l : List UInt8}
    (hc : ∀ (F : Fr) (φ : List Pl) (w : World) (args : Array Value), DenL F φ w args.toList vs → Calls P f args w (RetB w l)) : Sp P K f vs h fun u hh => u = .own 1 (bs l) h.length ∧ hh = h ++ [.tail] := by
  intro F φ w args hK hi hd
  refine (hc F φ w args hd).mono ?_
  rintro e w' ⟨u, rfl, ho, bel⟩
  have e1 := Ext.reserve φ w
  have i1 := hi.reserve
  have hr : (φ ++ [Pl.yet])[h.length]? = some .yet := by rw [← hi.len]; simp
  have hset : ∀ x : Ho, (h ++ [Ho.yet]).set h.length x = h ++ [x] := fun x => by
    rw [List.set_append_right _ _ (Nat.le_refl _)]; simp
  obtain ⟨h1, h2⟩ := ho
  rcases h2 with ⟨rfl, h0⟩ | ⟨g, cap, cur, rfl, hb, hg, hcap, hmx, hsz, htk⟩
  · have : l = [] := List.eq_nil_of_length_eq_zero h0
    subst this
    have hp : ∀ b', (Pl.free).blk = some b' → w.heap.size ≤ b' := fun b' h => by cases h
    have e2 := Ext.fill (φ := φ ++ [.yet]) (w := w) (w' := w') .free hr bel.size (fun b hb => bel.block b hb) hp (io_below bel)
    have i2 := i1.fill (w' := w') .free .tail hr bel.size (fun b hb => bel.block b hb) hp trivial (io_below bel)
    have hat : ((φ ++ [Pl.yet]).set h.length .free)[h.length]? = some .free := List.getElem?_set_self (get_lt hr)
    rw [hset] at i2
    exact ⟨_, _, _, _, rfl, e1.trans hi e2, i2, .ownEx ⟨_, hat, by simp⟩ (.inl hat) .nil rfl, rfl, rfl⟩
  · have hp : ∀ b', (Pl.tail g l.length).blk = some b' → w.heap.size ≤ b' := fun b' h => by cases h; exact hb
    have e2 := Ext.fill (φ := φ ++ [.yet]) (w := w) (w' := w') (.tail g l.length) hr bel.size (fun b hb => bel.block b hb) hp (io_below bel)
    have hcur : ∀ (j : Nat) (y : UInt8), l[j]? = some y → cur[j]? = some (Value.int .u8 y.toNat) := fun j y hy => by
      have h3 : (cur.toList.take (l.length * 1))[j]? = some (bv y) := by rw [htk, List.getElem?_map, hy]; rfl
      rw [List.getElem?_take] at h3
      split at h3
      · rw [Array.getElem?_toList] at h3; rw [h3]; simp [bv, B]
      · cases h3
    have i2 := i1.fill (w' := w') (.tail g l.length) .tail hr bel.size (fun b hb => bel.block b hb) hp ⟨cur, ⟨_, hg⟩, by omega⟩ (io_below bel)
    have hat : ((φ ++ [Pl.yet]).set h.length (.tail g l.length))[h.length]? = some (.tail g l.length) := List.getElem?_set_self (get_lt hr)
    rw [hset] at i2
    have hold : ∀ (i : Nat) (p : Pl), ((φ ++ [Pl.yet]).set h.length (.tail g l.length))[i]? = some p → p.blk = some g → p = .tail g l.length := fun i p hp hpb => by
      rcases get_set hp with ⟨_, h, _⟩ | ⟨_, h⟩
      · exact h
      · have := i1.lt h hpb; omega
    refine ⟨_, _, _, _, rfl, e1.trans hi e2, i2, ?_, rfl, rfl⟩
    have hden : DenD F ((φ ++ [Pl.yet]).set h.length (.tail g l.length)) w' (.slice (some ⟨g, 0, none⟩) l.length cap) (.sl 1 (bs l)) := by
      refine .sl (fun i _ => .int .u8 ((l[i]?).getD 0).toNat) (bs_len l) ⟨hcap, hmx⟩ (fun i e he => ?_) (fun i j hlt hj => ?_) (fun i e j x he hx => ?_)
      · rw [bs_get] at he
        obtain ⟨y, _, rfl⟩ := Option.map_eq_some_iff.1 he
        rfl
      · obtain rfl : j = 0 := by omega
        have hy : l[i]? = some l[i] := List.getElem?_eq_getElem hlt
        have h3 := hcur i _ hy
        refine ⟨⟨heap_lt hg, fun i hi' => ?_, fun i' e' hi' => ?_, fun hF => ?_⟩, ?_⟩
        · cases hold i _ hi' rfl
        · cases hold i' _ hi' rfl; omega
        · have := hi.frB _ _ hF; omega
        · rw [cell_of]
          refine ⟨cur, _, (0, 0), hg, ?_⟩
          simpa [hy] using h3
      · rw [bs_get] at he
        obtain ⟨y, hy, rfl⟩ := Option.map_eq_some_iff.1 he
        cases j with
        | zero => simp at hx; subst hx; simp only [hy, Option.getD_some]; exact .sc rfl
        | succ j => simp at hx
    refine .own ⟨_, hat, by simp⟩ hden (bs_len l) (fun b' e' hb' => ?_) (fun hb' => ?_) (fun b' hb' => ?_)
    · rw [hat] at hb'; cases hb'
      exact ⟨rfl, by omega, cur, _, hg, hsz⟩
    · rw [hat] at hb'; cases hb'
    · rw [hat] at hb'; cases hb'
end
end Go.Proofs.Ytonllhjmoenckaa
