/- A contract's last state told otherwise. No program stands here. -/
import Derived.Test.YtonllhjmoenckaaVsZ
namespace Go.Proofs.Ytonllhjmoenckaa
open Go Go.RowKit
set_option linter.unusedVariables false
set_option linter.unusedSimpArgs false
variable {P : Program} {K : Nat → Obj → Prop}

theorem Sp.descR {f : FuncId} {vs : List V} {h : List Ho} {R R' : V → List Ho → Prop} (hs : Sp P K f vs h R) (hR : ∀ v hh, R v hh → ∃ v' hh', Desc K h.length ⟨[v], hh⟩ ⟨[v'], hh'⟩ ∧ R' v' hh') : Sp P K f vs h R' := by
  intro F φ w args hK hi hd
  refine (hs F φ w args hK hi hd).mono ?_
  rintro e w' ⟨u, φ', v, h', rfl, he, hi', hdv, hr⟩
  obtain ⟨v', hh', hD, hr'⟩ := hR v h' hr
  obtain ⟨φ2, e2, i2, t2, _⟩ := hD F φ w h hK rfl hi ⟨#[u], []⟩ w' ⟨φ', he, hi', ⟨rfl, fun t r x hr hx => by
    cases t with
    | zero => simp at hr hx; subst hr; subst hx; exact hdv
    | succ t => simp at hx⟩, rfl⟩
  exact ⟨u, φ2, v', hh', rfl, e2, i2, t2.2 0 u v' (by simp) rfl, hr'⟩
/-- A slice without room (nil, a literal) with the right to what stands behind it: there is nothing. -/
theorem Desc.own0 {n0 : Nat} {tm : List V} {h : List Ho} {es : List (List D)} {v : V} (i k : Nat) (hc : tm[i]? = some v) (hv : v = .full k es ∨ (v = .sc (.slice none 0 0) ∧ es = [])) : Desc K n0 ⟨tm, h⟩ ⟨tm.set i (.own k es h.length), h ++ [.tail]⟩ := by
  intro F φ0 w0 h0 hK hn0 hi0 a w ⟨φ, he, hi, ht, hdf⟩
  have e1 := Ext.reserve φ w
  have i1 := hi.reserve
  have hr : (φ ++ [Pl.yet])[h.length]? = some .yet := by rw [← hi.len]; simp
  have hpp : ∀ b, Pl.free.blk = some b → w.heap.size ≤ b := fun b hb => by cases hb
  have e2 := Ext.fill (φ := φ ++ [.yet]) .free hr (Nat.le_refl _) (fun _ _ => rfl) hpp
  have i2 := i1.fill .free .tail hr (Nat.le_refl _) (fun _ _ => rfl) hpp trivial
  have e3 := e1.trans hi e2
  have hlen : (h ++ [Ho.yet]).set h.length .tail = h ++ [.tail] := by
    rw [List.set_append_right _ _ (Nat.le_refl _)]; simp
  rw [hlen] at i2
  have hat : ((φ ++ [Pl.yet]).set h.length .free)[h.length]? = some .free := List.getElem?_set_self (get_lt hr)
  have ht' := ht.ext e3
  refine ⟨_, he.trans hi0 e3, i2, ⟨by rw [ht'.1]; simp, fun t r v' hr' hv' => ?_⟩, hdf⟩
  rcases get_set hv' with ⟨rfl, rfl, _⟩ | ⟨hne, hv'⟩
  · have hd := ht'.2 t r v hr' hc
    rcases hv with rfl | ⟨rfl, rfl⟩
    · cases hd with
      | full h1 hn => exact .ownEx ⟨_, hat, by simp⟩ (.inl hat) h1 hn
    · rw [hd.sc.1]
      exact .ownEx ⟨_, hat, by simp⟩ (.inl hat) .nil rfl
  · exact ht'.2 t r v' hr' hv'
/-- The same, where an object's cell holds it. -/
theorem Desc.own0H {n0 : Nat} {tm : List V} {h : List Ho} (i c k : Nat) {cs : List V} (hi0 : h[i]? = some (.cells cs)) (hc : cs[c]? = some (.sc (.slice none 0 0))) : Desc K n0 ⟨tm, h⟩ ⟨tm, (h.set i (.cells (cs.set c (.own k [] h.length)))) ++ [.tail]⟩ := by
  intro F φ0 w0 h0 hK hn0 hi0' a w ⟨φ, he, hi, ht, hdf⟩
  have e1 := Ext.reserve φ w
  have i1 := hi.reserve
  have hr : (φ ++ [Pl.yet])[h.length]? = some .yet := by rw [← hi.len]; simp
  have hpp : ∀ b, Pl.free.blk = some b → w.heap.size ≤ b := fun b hb => by cases hb
  have e2 := Ext.fill (φ := φ ++ [.yet]) .free hr (Nat.le_refl _) (fun _ _ => rfl) hpp
  have i2 := i1.fill .free .tail hr (Nat.le_refl _) (fun _ _ => rfl) hpp trivial
  have e3 := e1.trans hi e2
  have hlen : (h ++ [Ho.yet]).set h.length .tail = h ++ [.tail] := by
    rw [List.set_append_right _ _ (Nat.le_refl _)]; simp
  rw [hlen] at i2
  have hat : ((φ ++ [Pl.yet]).set h.length .free)[h.length]? = some .free := List.getElem?_set_self (get_lt hr)
  refine ⟨_, he.trans hi0' e3, ⟨by have := i2.len; simpa using this, fun j p o hp ho => ?_, i2.apart, i2.frB, i2.frO, i2.frK⟩, ht.ext e3, hdf⟩
  have hil : i < h.length := get_lt hi0
  by_cases hj : j = i
  · subst hj
    have ho' : o = .cells (cs.set c (.own k [] h.length)) := by
      rw [List.getElem?_append_left (by simpa using hil), List.getElem?_set_self hil] at ho
      exact (Option.some.inj ho).symm
    subst ho'
    have hok := i2.ok j p (.cells cs) hp (by rw [List.getElem?_append_left hil]; exact hi0)
    cases p <;> simp only [ObOk] at hok ⊢
    · obtain ⟨arr, hrow, hz, hl, hd⟩ := hok
      refine ⟨arr, hrow, hz, by simpa using hl, fun x v hv => ?_⟩
      rcases get_set hv with ⟨rfl, rfl, _⟩ | ⟨_, hv⟩
      · obtain ⟨r, h1, h2, h3⟩ := hd x _ hc
        refine ⟨r, h1, h2, ?_⟩
        rw [h3.sc.1]
        exact .ownEx ⟨_, hat, by simp⟩ (.inl hat) .nil rfl
      · exact hd x v hv
    · subst hok; simp at hc
  · refine i2.ok j p o hp ?_
    by_cases hjl : j < h.length
    · rw [List.getElem?_append_left (by simpa using hjl), List.getElem?_set_ne (fun e => hj e.symm)] at ho
      rw [List.getElem?_append_left hjl]; exact ho
    · rw [List.getElem?_append_right (by simp; omega)] at ho
      rw [List.getElem?_append_right (by omega)]
      simpa using ho
end Go.Proofs.Ytonllhjmoenckaa
