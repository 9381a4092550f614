/- Parts of the proofs, joined: VsR. -/
import Derived.Test.YtgfnpcmehnjopaaGreatDoorT7
import Derived.OpenShut
import Derived.ChangeArms
namespace Go.Proofs.YtgfnpcmehnjopaaGreatDoor
section
open Go Go.RowKit
set_option linter.unusedVariables false
set_option linter.unusedSimpArgs false
set_option linter.constructorNameAsVariable false
abbrev F0 : Fr := ⟨fun _ _ => False, fun _ _ => False⟩
section
variable {H : Type} {enc : TypeId × Value → H} {P : Program} {w : World} {base : Nat} {held : Bool}
def DenC (w : World) (cs : List Value) (ds : List D) : Prop := ds.length = cs.length ∧ ∀ (j : Nat) (c : Value) (y : D), cs[j]? = some c → ds[j]? = some y → DenD F0 [] w c y
def Rd (enc : TypeId × Value → H) (P : Program) (w : World) (base : Nat) (held : Bool) (t : TypeId) (S : List D → Prop) : Prop :=
  ∀ (fuel : Nat) (cs : List Value) (x : DataW H × List MemPlace), DataW.trod enc P w base (fun _ => true) held fuel t cs = some x → ∃ ds, S ds ∧ DenC w cs ds
theorem Rd.mono {t : TypeId} {S S' : List D → Prop} (h : Rd enc P w base held t S) (hs : ∀ ds, S ds → S' ds) : Rd enc P w base held t S' := fun fuel cs x hx => by
  obtain ⟨ds, h1, h2⟩ := h fuel cs x hx
  exact ⟨ds, hs ds h1, h2⟩
theorem denC_one {c : Value} {y : D} (h : DenD F0 [] w c y) : DenC w [c] [y] :=
  ⟨rfl, fun j c' y' h1 h2 => by
    cases j with
    | zero => simp at h1 h2; subst h1 h2; exact h
    | succ j => simp at h1⟩
theorem Rd.int {t : TypeId} {k : IntKind} (ht : P.underlying t = some (.int k)) : Rd enc P w base held t fun ds => ∃ n, ds = [.sc (.int k n)] ∧ (Lit.int k n).wf = true := fun fuel cs x hx => by
  obtain ⟨n, rfl, _, hw⟩ := DataW.trod_int ht hx
  exact ⟨_, ⟨n, rfl, hw⟩, denC_one (.sc rfl)⟩
theorem Rd.bool {t : TypeId} (ht : P.underlying t = some .bool) : Rd enc P w base held t fun ds => ∃ b, ds = [.sc (.bool b)] := fun fuel cs x hx => by
  obtain ⟨b, rfl, _⟩ := DataW.trod_bool ht hx
  exact ⟨_, ⟨b, rfl⟩, denC_one (.sc rfl)⟩
theorem Rd.string {t : TypeId} (ht : P.underlying t = some .string) : Rd enc P w base held t fun ds => ∃ s, ds = [.sc (.string s)] ∧ s.size ≤ 9223372036854775807 := fun fuel cs x hx => by
  obtain ⟨s, rfl, _, hs⟩ := DataW.trod_string ht hx
  exact ⟨_, ⟨s, rfl, by unfold maxLen at hs; omega⟩, denC_one (.sc rfl)⟩
theorem Rd.slice {t e : TypeId} {k : Nat} {S : List D → Prop} (ht : P.underlying t = some (.slice e)) (hk : P.cellsOf e = k) (h0 : 0 < k) (he : Rd enc P w base held e S) :
    Rd enc P w base held t fun ds => ∃ es, ds = [.sl k es] ∧ ∀ x ∈ es, S x ∧ x.length = k := fun fuel cs x hx => by
  rcases DataW.trod_slice ht hx with ⟨rfl, _⟩ | ⟨a, len, cap, elems, rest, n, _, rfl, _, hb, hl, hm, hlen, hel, hsp, _⟩
  · exact ⟨_, ⟨[], rfl, by simp⟩, denC_one .nil⟩
  · rw [hk] at hel hsp
    obtain ⟨hrl, hr⟩ := hsp rfl
    have each : ∀ i, i < cap → ∃ (c : List Value) (ds : List D), w.cells? base (a.add (i * k)) k = some c ∧ S ds ∧ DenC w c ds := fun i hi => by
      have : ∃ x, (w.cells? base (a.add (i * k)) k).bind (DataW.trod enc P w base (fun _ => true) held n e) = some x := by
        by_cases h : i < len
        · exact ⟨_, (hel i h).trans (List.getElem?_eq_getElem (by omega))⟩
        · have := hr (i - len) (by omega)
          rw [show len + (i - len) = i by omega] at this
          exact ⟨_, this.trans (List.getElem?_eq_getElem (by omega))⟩
      obtain ⟨x, hx⟩ := this
      obtain ⟨c3, hcs, hy⟩ := Option.bind_eq_some_iff.1 hx
      obtain ⟨ds, h1, h2⟩ := he n c3 x hy
      exact ⟨c3, ds, hcs, h1, h2⟩
    by_cases hcap : cap = 0
    · subst hcap
      obtain rfl : len = 0 := by omega
      exact ⟨_, ⟨[], rfl, by simp⟩, denC_one .nil⟩
    · obtain ⟨c0, d0, hc0, _, _⟩ := each 0 (by omega)
      obtain ⟨_, hl0, hcell0⟩ := World.cells?_some hc0
      have h00 := hcell0 0 h0
      obtain ⟨b, off, sp⟩ := a
      have hsp : sp = none := by
        cases sp with
        | none => rfl
        | some q =>
          have hc : c0[0]? = some c0[0] := List.getElem?_eq_getElem (by omega)
          rw [hc] at h00
          simp only [Addr.add, Nat.zero_mul, if_true, World.cell?] at h00
          split at h00
          · simp at h00
          · cases h00
      subst hsp
      have each2 : ∀ i, i < cap → ∃ (ds : List D), S ds ∧ ds.length = k ∧ ∃ c : List Value, c.length = k ∧ (∀ j, j < k → w.cell? ⟨b, off + i * k + j, none⟩ = c[j]?) ∧ DenC w c ds := fun i hi => by
        obtain ⟨c, ds, h1, h2, h3⟩ := each i hi
        obtain ⟨_, h4, h5⟩ := World.cells?_some h1
        refine ⟨ds, h2, by rw [h3.1, h4], c, h4, fun j hj => ?_, h3⟩
        have := h5 j hj
        rw [add_addr, add_addr] at this
        exact this
      let f : Nat → List D := fun i => if h : i < cap then (each2 i h).choose else []
      have hf : ∀ i, i < cap → S (f i) ∧ (f i).length = k ∧ ∃ c : List Value, c.length = k ∧ (∀ j, j < k → w.cell? ⟨b, off + i * k + j, none⟩ = c[j]?) ∧ DenC w c (f i) := fun i hi => by
        have := (each2 i hi).choose_spec
        simp only [f, dif_pos hi]
        exact this
      have hget : ∀ (i : Nat) (x : List D), ((List.range len).map f)[i]? = some x → i < len ∧ x = f i := fun i x hx => by
        rw [List.getElem?_map] at hx
        obtain ⟨q, hq, rfl⟩ := Option.map_eq_some_iff.1 hx
        have hlt := get_lt hq
        simp only [List.length_range] at hlt
        rw [List.getElem?_range hlt] at hq
        cases hq
        exact ⟨hlt, rfl⟩
      have hcc : ∀ i j, i < len → j < k → ∃ v, w.cell? ⟨b, off + i * k + j, none⟩ = some v := fun i j hi hj => by
        obtain ⟨_, _, c, hc, h1, _⟩ := hf i (by omega)
        exact ⟨c[j], by rw [h1 j hj]; exact List.getElem?_eq_getElem (by omega)⟩
      refine ⟨_, ⟨(List.range len).map f, rfl, fun x hx => ?_⟩, denC_one (.sl (fun i j => (w.cell? ⟨b, off + i * k + j, none⟩).getD undef) (by simp) ⟨hl, by unfold maxLen at hm; omega⟩ (fun i x hx => ?_) (fun i j hi hj => ?_) (fun i x j y hx hy => ?_))⟩
      · obtain ⟨i, hi, rfl⟩ := List.mem_map.1 hx
        have := hf i (by have := List.mem_range.1 hi; omega)
        exact ⟨this.1, this.2.1⟩
      · obtain ⟨hlt, rfl⟩ := hget i x hx
        exact (hf i (by omega)).2.1
      · obtain ⟨v, hv⟩ := hcc i j hi hj
        rw [hv]
        exact ⟨⟨World.block_lt_of_cell? w _ hv, fun i hi' => by simp at hi', fun i e hi' => by simp at hi', fun hF => hF⟩, by simpa using hv⟩
      · obtain ⟨hlt, rfl⟩ := hget i x hx
        obtain ⟨_, hlk, c, hc, h1, h2⟩ := hf i (by omega)
        have hj : j < k := by rw [← hlk]; exact get_lt hy
        have hv : c[j]? = some c[j] := List.getElem?_eq_getElem (by omega)
        rw [h1 j hj, hv]
        exact h2.2 j _ _ hv hy
theorem DenC.append {c1 c2 : List Value} {d1 d2 : List D} (h1 : DenC w c1 d1) (h2 : DenC w c2 d2) : DenC w (c1 ++ c2) (d1 ++ d2) :=
  ⟨by simp [h1.1, h2.1], fun j c y hc hy => by
    have hl := h1.1
    by_cases hj : j < c1.length
    · rw [List.getElem?_append_left hj] at hc
      rw [List.getElem?_append_left (by omega)] at hy
      exact h1.2 j c y hc hy
    · rw [List.getElem?_append_right (by omega)] at hc
      rw [List.getElem?_append_right (by omega)] at hy
      rw [hl] at hy
      exact h2.2 _ c y hc hy⟩
def Parts : List (List D → Prop) → List D → Prop
  | [], ds => ds = []
  | S :: r, ds => ∃ a b, ds = a ++ b ∧ S a ∧ Parts r b
def RdFs (enc : TypeId × Value → H) (P : Program) (w : World) (base : Nat) (held : Bool) : Nat → List Field → List (List D → Prop) → Nat → Prop
  | o, [], [], m => o = m
  | o, f :: fl, S :: Ss, m => f.offset = o ∧ Rd enc P w base held f.type S ∧ RdFs enc P w base held (o + P.cellsOf f.type) fl Ss m
  | _, _, _, _ => False
theorem RdFs.read {n : Nat} {cs : List Value} : ∀ (fl : List Field) (Ss : List (List D → Prop)) (o : Nat), RdFs enc P w base held o fl Ss cs.length → (∀ f ∈ fl, ∃ x, DataW.trod enc P w base (fun _ => true) held n f.type ((cs.drop f.offset).take (P.cellsOf f.type)) = some x) →
    ∃ ds, Parts Ss ds ∧ DenC w (cs.drop o) ds
  | [], [], o, h, _ => by
    simp only [RdFs] at h
    subst h
    exact ⟨[], rfl, by simp [DenC]⟩
  | f :: fl, S :: Ss, o, h, hx => by
    obtain ⟨h1, h2, h3⟩ := h
    obtain ⟨x, hx0⟩ := hx f (by simp)
    obtain ⟨a, ha, hda⟩ := h2 n _ x hx0
    obtain ⟨b, hb, hdb⟩ := RdFs.read fl Ss _ h3 fun g hg => hx g (by simp [hg])
    refine ⟨a ++ b, ⟨a, b, rfl, ha, hb⟩, ?_⟩
    rw [h1] at hda
    have := hda.append hdb
    rw [← List.drop_drop, List.take_append_drop] at this
    exact this
  | [], _ :: _, o, h, _ => by simp [RdFs] at h
  | _ :: _, [], o, h, _ => by simp [RdFs] at h
theorem Rd.struct {t : TypeId} {fs : Array Field} {Ss : List (List D → Prop)} (ht : P.underlying t = some (.struct fs)) (hf : RdFs enc P w base held 0 fs.toList Ss (P.cellsOf t)) : Rd enc P w base held t (Parts Ss) := fun fuel cs x hx => by
  obtain ⟨xs, n, _, _, hl, hxl, hread⟩ := DataW.trod_struct ht hx
  rw [← hl] at hf
  obtain ⟨ds, h1, h2⟩ := RdFs.read (n := n) (cs := cs) fs.toList Ss 0 hf fun f hf => by
    obtain ⟨i, hi⟩ := List.mem_iff_getElem?.1 hf
    rw [Array.getElem?_toList] at hi
    have hlt : i < fs.size := getLt hi
    exact ⟨xs[i], (hread i f hi).trans (List.getElem?_eq_getElem (by omega))⟩
  exact ⟨ds, h1, by simpa using h2⟩
theorem Rd.array {t e : TypeId} {n k : Nat} {S : List D → Prop} (ht : P.underlying t = some (.array n e)) (hk : P.cellsOf e = k) (hn : P.cellsOf t = n * k) (he : Rd enc P w base held e S) : Rd enc P w base held t (Parts (List.replicate n S)) := fun fuel cs x hx => by
  obtain ⟨xs, m, _, _, hl, hxl, hread⟩ := DataW.trod_array ht hx
  rw [hk] at hread
  rw [hn] at hl
  have go : ∀ d i, i + d = n → ∃ ds, Parts (List.replicate d S) ds ∧ DenC w (cs.drop (i * k)) ds := fun d => by
    induction d with
    | zero =>
      intro i hi
      have ei : i = n := by omega
      have e0 : cs.drop (i * k) = [] := List.drop_eq_nil_of_le (Nat.le_of_eq (by rw [hl, ei]))
      rw [e0]
      exact ⟨[], rfl, by simp [DenC]⟩
    | succ d ih =>
      intro i hi
      obtain ⟨b, hb, hdb⟩ := ih (i + 1) (by omega)
      have hx0 : DataW.trod enc P w base (fun _ => true) held m e ((cs.drop (i * k)).take k) = some xs[i] := (hread i (by omega)).trans (List.getElem?_eq_getElem (by omega))
      obtain ⟨a, ha, hda⟩ := he m _ _ hx0
      refine ⟨a ++ b, ⟨a, b, rfl, ha, hb⟩, ?_⟩
      have := hda.append hdb
      rw [Nat.add_mul, Nat.one_mul, ← List.drop_drop, List.take_append_drop] at this
      exact this
  obtain ⟨ds, h1, h2⟩ := go n 0 (by omega)
  exact ⟨ds, h1, by simpa using h2⟩
theorem Rd.arg1 {t : TypeId} {S : List D → Prop} {v : Value} {d : DataW H} {ps : List MemPlace} (h : Rd enc P w base held t S) (hd : DataW.Trod enc P w base (fun _ => true) held t v d ps) (hv : v.cells = #[v]) :
    ∃ y, S [y] ∧ Den F0 [] w v (.d y) := by
  obtain ⟨fuel, hx⟩ := hd
  obtain ⟨ds, h1, h2⟩ := h fuel _ _ hx
  rw [hv] at h2
  match ds, h1, h2 with
  | [y], h1, h2 => exact ⟨y, h1, .d (h2.2 0 v y rfl rfl)⟩
  | [], _, h2 => have := h2.1; simp at this
  | _ :: _ :: _, _, h2 => have := h2.1; simp at this
theorem Rd.argN {t : TypeId} {S : List D → Prop} {cs : Array Value} {d : DataW H} {ps : List MemPlace} (h : Rd enc P w base held t S) (hd : DataW.Trod enc P w base (fun _ => true) held t (.agg cs) d ps) :
    ∃ ds, S ds ∧ Den F0 [] w (.agg cs) (.agg (ds.map V.d)) := by
  obtain ⟨fuel, hx⟩ := hd
  obtain ⟨ds, h1, h2⟩ := h fuel _ _ hx
  have hc : (Value.agg cs).cells = cs := rfl
  rw [hc] at h2
  have hl := h2.1
  refine ⟨ds, h1, .agg (by simpa using hl.symm) (fun i r hr => ?_) fun i r v hr hv => ?_⟩
  · have hlt := getLt hr
    have hlt2 : i < ds.length := by rw [hl]; simpa using hlt
    exact (h2.2 i r ds[i] (by rw [Array.getElem?_toList]; exact hr) (List.getElem?_eq_getElem hlt2)).one
  · rw [List.getElem?_map] at hv
    obtain ⟨y, hy, rfl⟩ := Option.map_eq_some_iff.1 hv
    exact .d (h2.2 i r y (by rw [Array.getElem?_toList]; exact hr) hy)
end
end
section
open Go Go.RowKit
set_option linter.unusedVariables false
set_option linter.unusedSimpArgs false
theorem DenD.len_le {F : Fr} {φ : List Pl} {w : World} {r : Value} {k : Nat} {es : List (List D)} (h : DenD F φ w r (.sl k es)) : es.length ≤ 9223372036854775807 := by
  cases h with
  | nil => simp
  | sl c hn hcap hk hc hd => omega
theorem Den.len_le {F : Fr} {φ : List Pl} {w : World} {r : Value} {k : Nat} {es : List (List D)} (h : Den F φ w r (.d (.sl k es))) : es.length ≤ 9223372036854775807 := by
  cases h with
  | d h => exact h.len_le
theorem all_ex {α : Type} {f : α → List D} : ∀ es : List (List D), (∀ x ∈ es, ∃ a, x = f a) → ∃ l : List α, es = l.map f
  | [], _ => ⟨[], rfl⟩
  | x :: es, h => by
    obtain ⟨a, rfl⟩ := h x (by simp)
    obtain ⟨l, rfl⟩ := all_ex es fun y hy => h y (by simp [hy])
    exact ⟨a :: l, rfl⟩
section
variable {H : Type} {enc : TypeId × Value → H} {P : Program} {w : World} {base : Nat} {held : Bool}
theorem Rd.bytes {t e : TypeId} (ht : P.underlying t = some (.slice e)) (he : P.underlying e = some (.int .u8)) (hk : P.cellsOf e = 1) : Rd enc P w base held t fun ds => ∃ l : List UInt8, ds = [.sl 1 (bs l)] :=
  (Rd.slice ht hk (by decide) (Rd.int he)).mono fun ds ⟨es, h1, h2⟩ => by
    obtain ⟨l, rfl⟩ := all_ex (f := fun b : UInt8 => [D.sc (.int .u8 b.toNat)]) es fun x hx => by
      obtain ⟨⟨n, rfl, hw⟩, _⟩ := h2 x hx
      have hb := bounds_u8 hw
      refine ⟨UInt8.ofNat n.toNat, ?_⟩
      have : ((UInt8.ofNat n.toNat).toNat : Int) = n := by rw [UInt8.toNat_ofNat']; omega
      rw [this]
    exact ⟨l, h1⟩
theorem Rd.row {t e : TypeId} {k : Nat} {S : List D → Prop} {α : Type} (f : α → List D) (ht : P.underlying t = some (.slice e)) (hk : P.cellsOf e = k) (h0 : 0 < k) (he : Rd enc P w base held e S) (hf : ∀ ds, S ds → ∃ a, ds = f a) : Rd enc P w base held t fun ds => ∃ l : List α, ds = [.sl k (l.map f)] :=
  (Rd.slice ht hk h0 he).mono fun ds ⟨es, h1, h2⟩ => by
    obtain ⟨l, rfl⟩ := all_ex es fun x hx => hf x (h2 x hx).1
    exact ⟨l, h1⟩
theorem Parts.nil {ds : List D} (h : Parts [] ds) : ds = [] := h
theorem Parts.cons {S : List D → Prop} {Ss : List (List D → Prop)} {ds : List D} (h : Parts (S :: Ss) ds) : ∃ a b, ds = a ++ b ∧ S a ∧ Parts Ss b := h
end
end
end Go.Proofs.YtgfnpcmehnjopaaGreatDoor
