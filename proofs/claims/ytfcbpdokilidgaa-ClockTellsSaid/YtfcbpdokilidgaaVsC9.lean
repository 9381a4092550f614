/- A slice of clocks that came in, told by its list. -/
import Derived.Test.YtfcbpdokilidgaaVsC7
import Derived.Test.YtfcbpdokilidgaaRowC
namespace Go.Proofs.Ytfcbpdokilidgaa
open Go Go.RowKit Go.ChangeShapes
set_option linter.unusedVariables false
set_option linter.unusedSimpArgs false
set_option linter.constructorNameAsVariable false

set_option maxRecDepth 100000 in
theorem open_clks {H : Type} {enc : TypeId × Value → H} {W : World} {base : Nat} {held : Bool} {a0 : Option Addr} {len0 cap0 : Nat} {d : DataW H} {ps : List MemPlace}
    (hd : DataW.Trod enc Try.prog W base (fun _ => true) held 55 (.slice a0 len0 cap0) d ps) :
    ∃ l : List Clk, DenD ⟨fun _ _ => False, fun _ _ => False⟩ [] W (.slice a0 len0 cap0) (.sl 3 (cs l)) := by
  obtain ⟨fuel, hf⟩ := hd
  rcases DataW.trod_slice Try.underlying55 hf with ⟨hcs, _⟩ | ⟨a, len, cap, elems, rest, n, _, hcs, _, hb, hl, hm, hlen, hel, hsp, _⟩
  · simp [Value.cells] at hcs
    obtain ⟨rfl, rfl, rfl⟩ := hcs
    exact ⟨[], .nil⟩
  · simp [Value.cells] at hcs
    obtain ⟨rfl, rfl, rfl⟩ := hcs
    have hc3 : Try.prog.cellsOf 54 = 3 := by kernel_rfl
    rw [hc3] at hel hsp
    obtain ⟨hrl, hr⟩ := hsp rfl
    have each : ∀ i, i < cap0 → ∃ c : Clk, ∀ j, j < 3 → W.cell? ((a.add (i * 3)).add j) = (cc c)[j]? := by
      intro i hi
      have : ∃ x, (W.cells? base (a.add (i * 3)) 3).bind (DataW.trod enc Try.prog W base (fun _ => true) held n 54) = some x := by
        by_cases h : i < len0
        · exact ⟨_, (hel i h).trans (List.getElem?_eq_getElem (by omega))⟩
        · have := hr (i - len0) (by omega)
          rw [show len0 + (i - len0) = i by omega] at this
          exact ⟨_, this.trans (List.getElem?_eq_getElem (by omega))⟩
      obtain ⟨x, hx⟩ := this
      obtain ⟨c3, hcs, hy⟩ := Option.bind_eq_some_iff.1 hx
      obtain ⟨_, hl3, hcell⟩ := World.cells?_some hcs
      match c3, hl3, hy, hcell with
      | [c0, c1, c2], _, hy, hcell =>
        obtain ⟨y0, y1, y2, n', _, t0, t1, t2⟩ := trod_array3 Try.underlying54 (by kernel_rfl) hy
        obtain ⟨p, ep, _, _⟩ := DataW.trod_int Try.underlying2 t0
        obtain ⟨q, eq, _, _⟩ := DataW.trod_int Try.underlying2 t1
        obtain ⟨r, er, _, _⟩ := DataW.trod_int Try.underlying2 t2
        simp at ep eq er
        subst ep; subst eq; subst er
        exact ⟨⟨p, q, r⟩, fun j hj => hcell j hj⟩
    by_cases hcap : cap0 = 0
    · subst hcap
      obtain rfl : len0 = 0 := by omega
      exact ⟨[], .nil⟩
    · obtain ⟨c0, hc0⟩ := each 0 (by omega)
      have h00 := hc0 0 (by omega)
      obtain ⟨b, off, sp⟩ := a
      have hsp : sp = none := by
        cases sp with
        | none => rfl
        | some q =>
          simp only [Addr.add, Nat.zero_mul, if_true, World.cell?] at h00
          split at h00
          · simp [cc] at h00
          · simp [cc] at h00
      subst hsp
      have each2 : ∀ i, i < cap0 → ∃ c : Clk, ∀ j, j < 3 → W.cell? ⟨b, off + i * 3 + j, none⟩ = (cc c)[j]? := fun i hi => by
        obtain ⟨c, hc⟩ := each i hi
        refine ⟨c, fun j hj => ?_⟩
        have := hc j hj
        rw [add_addr, add_addr] at this
        exact this
      let f : Nat → Clk := fun i => if h : i < cap0 then (each2 i h).choose else ⟨0, 0, 0⟩
      have hfc : ∀ i, i < cap0 → ∀ j, j < 3 → W.cell? ⟨b, off + i * 3 + j, none⟩ = (cc (f i))[j]? := fun i hi j hj => by
        have := (each2 i hi).choose_spec j hj
        rw [this]
        simp only [f, dif_pos hi]
      have hcsl : cs ((List.range len0).map f) = (List.range len0).map fun i => [.sc (.int .i64 (f i).x), .sc (.int .i64 (f i).y), .sc (.int .i64 (f i).z)] := by simp [cs, Function.comp_def]
      have hget : ∀ (i : Nat) (e : List D), (cs ((List.range len0).map f))[i]? = some e → i < len0 ∧ e = [.sc (.int .i64 (f i).x), .sc (.int .i64 (f i).y), .sc (.int .i64 (f i).z)] := fun i e he => by
        rw [hcsl, List.getElem?_map] at he
        obtain ⟨q, hq, rfl⟩ := Option.map_eq_some_iff.1 he
        have hlt := get_lt hq
        simp only [List.length_range] at hlt
        rw [List.getElem?_range hlt] at hq
        cases hq
        exact ⟨hlt, rfl⟩
      refine ⟨(List.range len0).map f, .sl (fun i j => ((cc (f i))[j]?).getD undef) (by rw [hcsl]; simp) ⟨hl, by unfold maxLen at hm; omega⟩ (fun i e he => ?_) (fun i j hi hj => ?_) (fun i e j x he hx => ?_)⟩
      · obtain ⟨_, rfl⟩ := hget i e he; rfl
      · have h1 := hfc i (by omega) j hj
        have hcj : (cc (f i))[j]? = some (((cc (f i))[j]?).getD undef) := by
          match j, hj with
          | 0, _ => rfl
          | 1, _ => rfl
          | 2, _ => rfl
        rw [hcj] at h1
        exact ⟨⟨World.block_lt_of_cell? W _ h1, fun i hi' => by simp at hi', fun i e hi' => by simp at hi', fun hF => hF⟩, h1⟩
      · obtain ⟨_, rfl⟩ := hget i e he
        match j, hx with
        | 0, hx => simp at hx; subst hx; exact .sc rfl
        | 1, hx => simp at hx; subst hx; exact .sc rfl
        | 2, hx => simp at hx; subst hx; exact .sc rfl
end Go.Proofs.Ytfcbpdokilidgaa
