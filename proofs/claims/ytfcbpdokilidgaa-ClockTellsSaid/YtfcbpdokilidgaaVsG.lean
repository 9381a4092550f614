/- The pure step of an operation is what the model's operation does: new memory, conversions. No program stands here. -/
import Derived.Test.YtfcbpdokilidgaaVsF
namespace Go.Proofs.Ytfcbpdokilidgaa
open Go Go.RowKit
set_option linter.unusedVariables false
set_option linter.unusedSimpArgs false
variable {F : Fr}

section
variable {P : Program} {F : Fr} {φ : List Pl} {w : World}

/-- A new variable. -/
theorem newVar_den {h : List Ho} (hi : Inv F φ w h) {n : Nat} (hn : φ[n]? = some .yet) (T : TypeId) {r : Value} {v : V} (hr : Den F φ w r v) (h1 : (cellsV v).all isOne = true) :
    (newVar T r).run P w = .ok ⟨w.heap.size, 0, none⟩ (w.alloc (.cells r.cells T)) ∧ Ext φ w (φ.set n (.obj w.heap.size)) (w.alloc (.cells r.cells T)) ∧
    Inv F (φ.set n (.obj w.heap.size)) (w.alloc (.cells r.cells T)) (h.set n (.cells (cellsV v))) ∧ Den F (φ.set n (.obj w.heap.size)) (w.alloc (.cells r.cells T)) (.pointer (some ⟨w.heap.size, 0, none⟩)) (.ptr n 0) := by
  obtain ⟨a1, a2⟩ := more_alloc w (.cells r.cells T)
  have hp : ∀ b, (Pl.obj w.heap.size).blk = some b → w.heap.size ≤ b := fun b hb => by cases hb; exact Nat.le_refl _
  have he := Ext.fill (φ := φ) (.obj w.heap.size) hn a1 a2 hp
  obtain ⟨hd, ho⟩ := cells_den hr h1
  have hat : (φ.set n (.obj w.heap.size))[n]? = some (.obj w.heap.size) := List.getElem?_set_self (get_lt hn)
  refine ⟨by simp [newVar, newRow], he, hi.fill _ _ hn a1 a2 hp ?_, ?_⟩
  · refine ⟨r.cells, ⟨T, heap_alloc_new w _⟩, by rw [← hd.length]; simp, fun j x hx => ?_⟩
    obtain ⟨u, hu⟩ := ofLtL (xs := r.cells.toList) (i := j) (by rw [hd.length]; exact get_lt hx)
    exact ⟨u, by simpa using hu, ho u (List.mem_of_getElem? hu), (hd.get j u x hu hx).ext he⟩
  · refine .ptr ⟨_, hat, by simp⟩ fun b' hb' => ?_
    rw [hat] at hb'; cases hb'; rfl

theorem box_gd {h : List Ho} (hi : Inv F φ w h) {n : Nat} (hn : φ[n]? = some .yet) (T : TypeId) {r : Value} {v : V} (hr : Den F φ w r v) (h1 : (cellsV v).all isOne = true) :
    ∃ u w', (Instr.box T r).run P w = .ok u w' ∧ ∃ φ', Ext φ w φ' w' ∧ Inv F φ' w' (h.set n (.cells (cellsV v))) ∧ Den F φ' w' u (.ptr n 0) := by
  obtain ⟨a, b, c, d⟩ := newVar_den (P := P) hi hn T hr h1
  exact ⟨_, _, by simp only [Instr.box, Sem.run_bind, a, Result.andThen_ok, Sem.run_pure], _, b, c, d⟩

theorem zeroVs_den {t : TypeId} {cs : List V} (h : zeroVs P t = some cs) : ∃ z, (zeroValue t).run P w = .ok z w ∧ DenL F φ w z.cells.toList cs ∧ (∀ x ∈ z.cells.toList, flat x = true) ∧ cs = z.cells.toList.map V.sc := by
  unfold zeroVs at h
  split at h
  · rename_i z hz
    split at h
    · rename_i hf
      cases h
      have hf' : ∀ x ∈ z.cells.toList, flat x = true := fun x hx => Array.all_eq_true_iff_forall_mem.1 hf x (by simpa using hx)
      refine ⟨z, ?_, ?_, hf', rfl⟩
      · unfold zeroT at hz
        cases hq : P.info? t with
        | none => simp [hq] at hz
        | some i =>
          have : i.zero = some z := by simpa [hq] using hz
          simp [zeroValue, typeInfo, hq, this]
      · exact .of_get (by simp) fun i r v hr hv => by
          rw [List.getElem?_map, hr] at hv
          cases hv
          exact den_sc (hf' r (List.mem_of_getElem? hr))
    · cases h
  · cases h

theorem alloc_gd {h : List Ho} (hi : Inv F φ w h) {n : Nat} (hn : φ[n]? = some .yet) (T : TypeId) {cs : List V} (hz : zeroVs P T = some cs) :
    ∃ u w', (Instr.alloc T true (.tuple #[])).run P w = .ok u w' ∧ ∃ φ', Ext φ w φ' w' ∧ Inv F φ' w' (h.set n (.cells cs)) ∧ Den F φ' w' u (.ptr n 0) := by
  obtain ⟨z, hrun, hd, hf, hcs⟩ := zeroVs_den (φ := φ) (w := w) hz
  have hden : Den F φ w (.agg z.cells) (.agg cs) := .agg (by have := hd.length; simpa using this) (fun i r hr => flat_one (hf r (List.mem_of_getElem? (by simpa using hr)))) (fun i r v hr hv => hd.get i r v (by simpa using hr) hv)
  have hall : (cellsV (.agg cs)).all isOne = true := by
    subst hcs
    simp [cellsV, isOne]
  obtain ⟨a, b, c, d⟩ := newVar_den (P := P) hi hn T hden hall
  have a' : (newVar T z).run P w = .ok ⟨w.heap.size, 0, none⟩ (w.alloc (.cells z.cells T)) := by simp [newVar, newRow]
  exact ⟨_, _, by simp only [Instr.alloc, Sem.run_bind, hrun, Result.andThen_ok, a', Sem.run_pure]; rfl, _, b, c, d⟩

/-! ### Literals -/
theorem foldl_splice : ∀ (vs : List Value) (k off : Nat) (cells : Array Value), off + k + vs.length ≤ cells.size →
    ((vs.zipIdx k).foldl (fun cs (c, j) => cs.setIfInBounds (off + j) c) cells).toList = cells.toList.take (off + k) ++ vs ++ cells.toList.drop (off + k + vs.length)
  | [], k, off, cells, _ => by simp
  | v :: vs, k, off, cells, h => by
    simp only [List.zipIdx_cons, List.foldl_cons]
    rw [foldl_splice vs (k + 1) off _ (by simp at h ⊢; omega)]
    have e := list_seg_step cells.toList (off + k) v vs (by simp at h ⊢; omega)
    simpa [Array.toList_setIfInBounds, Nat.add_assoc] using e

theorem fillV_run {place : Nat → Option (Nat × Nat)} : ∀ {ps : List (Nat × V)} {rps : List (Nat × Value)} {cs out : List V} {cells : Array Value}, fillV place cs ps = some out →
    rps.map (·.1) = ps.map (·.1) → DenL F φ w (rps.map (·.2)) (ps.map (·.2)) → DenL F φ w cells.toList cs → (∀ x ∈ cells.toList, x.oneCell' = true) →
    ∃ res, Instr.fill place cells rps = some res ∧ DenL F φ w res.toList out ∧ ∀ x ∈ res.toList, x.oneCell' = true
  | [], [], cs, out, cells, h, _, _, hc, h1 => by simp only [fillV] at h; cases h; exact ⟨cells, rfl, hc, h1⟩
  | [], _ :: _, _, _, _, _, h, _, _, _ => by simp at h
  | _ :: _, [], _, _, _, _, h, _, _, _ => by simp at h
  | (i, v) :: ps, (i', r) :: rps, cs, out, cells, h, hi, hd, hc, h1 => by
    simp only [List.map_cons, List.cons.injEq] at hi
    obtain ⟨rfl, hi⟩ := hi
    cases hd with
    | cons hd hds =>
      unfold fillV at h
      split at h
      · rename_i off size hp
        split at h
        · rename_i hcond
          obtain ⟨c1, c2, c3⟩ := hcond
          obtain ⟨hdc, hone⟩ := cells_den hd c3
          have hlen := hdc.length
          have hcl := hc.length
          simp only [Array.length_toList] at hlen hcl
          unfold Instr.fill
          simp only [hp]
          have n1 : ¬ ((r.cells.size ≠ size || decide (off + r.cells.size > cells.size)) = true) := by simp; omega
          rw [if_neg n1]
          have hf := foldl_splice r.cells.toList 0 off cells (by simp; omega)
          simp only [Nat.add_zero] at hf
          have hsz : off + (cellsV v).length ≤ cs.length := by omega
          refine fillV_run h hi hds ?_ ?_
          · rw [show r.cells.zipIdx.foldl (fun cs (c, j) => cs.setIfInBounds (off + j) c) cells = (r.cells.toList.zipIdx 0).foldl (fun cs (c, j) => cs.setIfInBounds (off + j) c) cells by
              rw [← Array.toList_zipIdx, Array.foldl_toList], hf]
            have hk : (cellsV v).length = r.cells.toList.length := by simp; omega
            refine .of_get ?_ fun j x y hx hy => ?_
            · rw [splice_len _ _ _ (by simp; omega), ← c1, splice_len _ _ _ hsz]; simpa using hcl
            · rw [splice_get _ _ _ (by simp; omega)] at hx
              rw [← c1, splice_get _ _ _ hsz] at hy
              rw [hk] at hy
              by_cases g1 : j < off
              · rw [if_pos g1] at hx hy; exact hc.get j x y hx hy
              · rw [if_neg g1] at hx hy
                by_cases g2 : j < off + r.cells.toList.length
                · rw [if_pos g2] at hx hy; exact hdc.get _ x y hx hy
                · rw [if_neg g2] at hx hy; exact hc.get j x y hx hy
          · rw [show r.cells.zipIdx.foldl (fun cs (c, j) => cs.setIfInBounds (off + j) c) cells = (r.cells.toList.zipIdx 0).foldl (fun cs (c, j) => cs.setIfInBounds (off + j) c) cells by
              rw [← Array.toList_zipIdx, Array.foldl_toList], hf]
            intro x hx
            simp only [List.mem_append] at hx
            rcases hx with (hx | hx) | hx
            · exact h1 x (List.mem_of_mem_take hx)
            · exact hone x hx
            · exact h1 x (List.mem_of_mem_drop hx)
        · cases h
      · cases h

theorem build_run {t : TypeId} {z out : List V} {ps : List (Nat × V)} {rps : Array (Nat × Value)} (hz : zeroVs P t = some z) (h : fillV (placeOf P t) z ps = some out)
    (hi : rps.toList.map (·.1) = ps.map (·.1)) (hd : DenL F φ w (rps.toList.map (·.2)) (ps.map (·.2))) (hk : (placesT P t).isSome = true ∨ (elemT P t).isSome = true) :
    ∃ u, (Instr.build t rps).run P w = .ok u w ∧ Den F φ w u (.agg out) := by
  obtain ⟨zv, hzr, hzd, hzf, _⟩ := zeroVs_den (φ := φ) (w := w) hz
  obtain ⟨res, hf, hrd, h1⟩ := fillV_run h hi hd hzd fun x hx => flat_one (hzf x hx)
  have hden : Den F φ w (.agg res) (.agg out) := .agg (by have := hrd.length; simpa using this) (fun i r hr => h1 r (List.mem_of_getElem? (by simpa using hr))) (fun i r v hr hv => hrd.get i r v (by simpa using hr) hv)
  refine ⟨_, ?_, hden⟩
  have hinfo : ∃ i, P.info? t = some i ∧ i.zero = some zv := by
    unfold zeroValue typeInfo at hzr
    cases hq : P.info? t with
    | none => simp [hq] at hzr
    | some i =>
      refine ⟨i, rfl, ?_⟩
      cases hq2 : i.zero with
      | none => simp [hq, hq2] at hzr
      | some z' => simp [hq, hq2] at hzr; rw [hzr]
  obtain ⟨it, hit, hitz⟩ := hinfo
  refine run_build w t rps res ?_
  unfold Program.built
  cases hu : P.underlying t with
  | none => simp [placesT, elemT, hu] at hk
  | some d =>
    cases d with
    | struct fs =>
      have hk' : (placesT P t).isSome = true := by
        rcases hk with hk | hk
        · exact hk
        · simp [elemT, hu] at hk
      obtain ⟨pl, hpl⟩ := Option.isSome_iff_exists.1 hk'
      have hpl' := hpl
      simp only [placesT, hu] at hpl
      simp only [hit, hitz, hpl]
      rw [← hf]
      congr 1
      funext i
      simp [placeOf, hpl']
    | array n e =>
      simp only [hit, hitz]
      have hpn : placesT P t = none := by simp [placesT, hu]
      cases hie : P.info? e with
      | none => simp [placesT, elemT, hu, szT, hie] at hk
      | some ie =>
        simp only []
        rw [← hf]
        congr 1
        funext i
        simp [placeOf, hpn, elemT, hu, szT, hie]
    | _ => simp [placesT, elemT, hu] at hk

/-- A slice literal's block. -/
theorem run_buildSlice0 {t e : TypeId} {len : Nat} {parts : Array (Nat × Value)} {cells : Array Value} {k : Nat} {z : Value} (hu : P.underlying t = some (.slice e)) (hk : szT P e = some k) (hz : zeroT P e = some z)
    (hs : len * k ≤ 16777216) (h : Instr.fill (fun i => some (i * k, k)) ((Array.range (len * k)).map (z.cells[· % z.cells.size]!)) parts.toList = some cells) :
    (Instr.buildSlice t len parts).run P w = .ok (.slice (some ⟨w.heap.size, 0, none⟩) len len) (w.alloc (.cells cells e)) := by
  have hs' : ¬ len * k > 2 ^ 24 := by omega
  have hzr : (zeroValue e).run P w = .ok z w := by
    unfold zeroT at hz
    cases hq : P.info? e with
    | none => simp [hq] at hz
    | some i =>
      have : i.zero = some z := by simpa [hq] using hz
      simp [zeroValue, typeInfo, hq, this]
  by_cases h0 : len * k = 0
  · rw [h0] at h
    simp only [Array.range_zero', Array.map_empty] at h
    simp only [Instr.buildSlice, Sem.run_bind, run_underlying hu, Result.andThen_ok, sz_run hk, Sem.run_ite, if_neg hs', Sem.run_pure, h0, if_true, Array.range_zero', Array.map_empty, h, newRow, run_newObj_alloc]
    rw [if_neg (by omega)]
  · simp only [Instr.buildSlice, Sem.run_bind, run_underlying hu, Result.andThen_ok, sz_run hk, Sem.run_ite, if_neg hs', Sem.run_pure, if_neg h0, hzr, h, newRow, run_newObj_alloc]

/-- Cells that bear a list of elements. -/
def Bear (F : Fr) (φ : List Pl) (w : World) (k : Nat) (cells : Array Value) (es : List (List D)) : Prop :=
  cells.size = es.length * k ∧ (∀ (i : Nat) (e : List D), es[i]? = some e → e.length = k) ∧ (∀ x ∈ cells.toList, x.oneCell' = true) ∧
  ∀ (i : Nat) (e : List D) (j : Nat) (x : D), es[i]? = some e → e[j]? = some x → ∃ r, cells[i * k + j]? = some r ∧ DenD F φ w r x

theorem Bear.ext {φ' : List Pl} {w' : World} (he : Ext φ w φ' w') {k : Nat} {cells : Array Value} {es : List (List D)} (h : Bear F φ w k cells es) : Bear F φ' w' k cells es :=
  ⟨h.1, h.2.1, h.2.2.1, fun i e j x h1 h2 => let ⟨r, a, b⟩ := h.2.2.2 i e j x h1 h2; ⟨r, a, b.ext he⟩⟩

/-- Such cells in a block that nothing may change. -/
theorem Bear.den {k b : Nat} {es : List (List D)} {cells blk : Array Value} {T : TypeId} {fr : Nat × Nat} (h : Bear F φ w k cells es) (hb : w.heap[b]? = some (.cells blk T fr)) (hpre : ∀ i, i < cells.size → blk[i]? = cells[i]?)
    (hp : ∀ o, o < cells.size → prot F φ w b o) (cap : Nat) (hcap : es.length ≤ cap ∧ cap ≤ 9223372036854775807) : DenD F φ w (.slice (some ⟨b, 0, none⟩) es.length cap) (.sl k es) := by
  obtain ⟨h1, h2, h3, h4⟩ := h
  have idx : ∀ i j, i < es.length → j < k → i * k + j < cells.size := fun i j hi hj => by
    rw [h1]
    have : (i + 1) * k ≤ es.length * k := Nat.mul_le_mul_right k hi
    rw [Nat.add_mul] at this
    omega
  refine .sl (fun i j => (cells[i * k + j]?).getD undef) rfl hcap h2 (fun i j hi hj => ?_) fun i e j x he hx => ?_
  · have hlt := idx i j hi hj
    refine ⟨by simpa using hp _ hlt, (cell_of w b _ _).2 ⟨blk, T, fr, hb, ?_⟩⟩
    simp only [Nat.zero_add]
    rw [hpre _ hlt, Array.getElem?_eq_getElem hlt]; rfl
  · obtain ⟨r, hr, hd⟩ := h4 i e j x he hx
    rw [hr]; exact hd

theorem toDs_den : ∀ {vs : List V} {ds : List D} {rs : List Value}, toDs vs = some ds → DenL F φ w rs vs → ds.length = rs.length ∧ ∀ (j : Nat) (x : D), ds[j]? = some x → ∃ r, rs[j]? = some r ∧ DenD F φ w r x
  | [], ds, rs, h, hd => by
    cases hd
    simp only [toDs] at h; cases h
    exact ⟨rfl, fun j x hx => by simp at hx⟩
  | v :: vs, ds, rs, h, hd => by
    cases hd with
    | cons hd hds =>
      unfold toDs at h
      split at h
      · rename_i x xs h1 h2
        cases h
        obtain ⟨a, b⟩ := toDs_den h2 hds
        refine ⟨by simp [a], fun j y hy => ?_⟩
        cases j with
        | zero => simp at hy; subst hy; exact ⟨_, rfl, toD_den h1 hd⟩
        | succ j => simpa using b j y (by simpa using hy)
      · cases h
theorem toDs_one : ∀ {vs : List V} {ds : List D}, toDs vs = some ds → vs.all isOne = true
  | [], ds, h => rfl
  | v :: vs, ds, h => by
    unfold toDs at h
    split at h
    · rename_i x xs h1 h2
      have : isOne v = true := by
        unfold toD at h1
        split at h1 <;> first | rfl | cases h1
      simp [this, toDs_one h2]
    · cases h

theorem partsEs_run {k : Nat} : ∀ {ps : List (Nat × V)} {rps : List (Nat × Value)} {es out : List (List D)} {cells : Array Value}, partsEs k es ps = some out →
    rps.map (·.1) = ps.map (·.1) → DenL F φ w (rps.map (·.2)) (ps.map (·.2)) → Bear F φ w k cells es →
    ∃ res, Instr.fill (fun i => some (i * k, k)) cells rps = some res ∧ Bear F φ w k res out ∧ out.length = es.length
  | [], [], es, out, cells, h, _, _, hc => by simp only [partsEs] at h; cases h; exact ⟨cells, rfl, hc, rfl⟩
  | [], _ :: _, _, _, _, _, h, _, _ => by simp at h
  | _ :: _, [], _, _, _, _, h, _, _ => by simp at h
  | (i0, v) :: ps, (i, r) :: rps, es, out, cells, h, hi, hd, hc => by
    simp only [List.map_cons, List.cons.injEq] at hi
    obtain ⟨rfl, hi⟩ := hi
    cases hd with
    | cons hd hds =>
      unfold partsEs at h
      split at h
      · rename_i c hcv
        split at h
        · rename_i hcond
          obtain ⟨c1, c2⟩ := hcond
          obtain ⟨hdc, hone⟩ := cells_den hd (toDs_one hcv)
          obtain ⟨hl, hg⟩ := toDs_den hcv hdc
          obtain ⟨b1, b2, b3, b4⟩ := hc
          have hlen : r.cells.size = k := by rw [← c1, hl]; simp
          have hle : i * k + k ≤ cells.size := by
            rw [b1]
            have : (i + 1) * k ≤ es.length * k := Nat.mul_le_mul_right k c2
            rw [Nat.add_mul] at this; omega
          unfold Instr.fill
          have n1 : ¬ ((r.cells.size ≠ k || decide (i * k + r.cells.size > cells.size)) = true) := by simp; omega
          simp only []
          rw [if_neg n1]
          have hf := foldl_splice r.cells.toList 0 (i * k) cells (by simp; omega)
          simp only [Nat.add_zero] at hf
          have hf' : (r.cells.zipIdx.foldl (fun cs (c, j) => cs.setIfInBounds (i * k + j) c) cells).toList = cells.toList.take (i * k) ++ r.cells.toList ++ cells.toList.drop (i * k + r.cells.toList.length) := by
            rw [← hf, ← Array.toList_zipIdx, Array.foldl_toList]
          have hrl : r.cells.toList.length = k := by simpa using hlen
          generalize hX : r.cells.zipIdx.foldl (fun cs (c, j) => cs.setIfInBounds (i * k + j) c) cells = X at hf'
          have hsz : X.size = cells.size := by
            rw [← Array.length_toList, hf', splice_len _ _ _ (by rw [hrl]; simpa using hle)]; simp
          have hget : ∀ j, X[j]? = if j < i * k then cells[j]? else if j < i * k + k then r.cells[j - i * k]? else cells[j]? := fun j => by
            rw [← Array.getElem?_toList, hf', splice_get _ _ _ (by rw [hrl]; simpa using hle), hrl]
            simp
          obtain ⟨res, g1, g2, g3⟩ := partsEs_run (cells := X) h hi hds ⟨by rw [hsz, b1]; simp, fun i' e he => by
              rcases get_set he with ⟨rfl, rfl, _⟩ | ⟨_, he⟩
              · exact c1
              · exact b2 i' e he, fun x hx => by
              rw [hf'] at hx
              simp only [List.mem_append] at hx
              rcases hx with (hx | hx) | hx
              · exact b3 x (List.mem_of_mem_take hx)
              · exact hone x hx
              · exact b3 x (List.mem_of_mem_drop hx), fun i' e j x he hx => by
              rw [hget]
              rcases get_set he with ⟨rfl, rfl, _⟩ | ⟨hne, he⟩
              · have hj := get_lt hx
                obtain ⟨u, hu, hdu⟩ := hg j x hx
                refine ⟨u, ?_, hdu⟩
                rw [if_neg (by omega), if_pos (by omega), show i' * k + j - i' * k = j by omega]
                simpa using hu
              · have hj : j < k := by have := get_lt hx; rw [b2 i' e he] at this; exact this
                obtain ⟨u, hu, hdu⟩ := b4 i' e j x he hx
                refine ⟨u, ?_, hdu⟩
                by_cases hlt : i' < i
                · have : (i' + 1) * k ≤ i * k := Nat.mul_le_mul_right k hlt
                  rw [Nat.add_mul] at this
                  rw [if_pos (by omega)]; exact hu
                · have : (i + 1) * k ≤ i' * k := Nat.mul_le_mul_right k (by omega)
                  rw [Nat.add_mul] at this
                  rw [if_neg (by omega), if_neg (by omega)]; exact hu⟩
          exact ⟨res, g1, g2, by rw [g3]; simp⟩
        · cases h
      · cases h

theorem buildSlice_gd {h : List Ho} (hi : Inv F φ w h) {t : TypeId} {len : Nat} {ps : List (Nat × V)} {rps : Array (Nat × Value)} {v : V} (hb : buildSliceV P t len ps = some v)
    (hix : rps.toList.map (·.1) = ps.map (·.1)) (hd : DenL F φ w (rps.toList.map (·.2)) (ps.map (·.2))) :
    ∃ u w', (Instr.buildSlice t len rps).run P w = .ok u w' ∧ ∃ φ', Ext φ w φ' w' ∧ Inv F φ' w' h ∧ Den F φ' w' u v := by
  unfold buildSliceV at hb
  split at hb
  · rename_i e hu
    split at hb
    · rename_i k z hk hz
      split at hb
      · rename_i hcond
        obtain ⟨c0, c1, c2, c3⟩ := hcond
        obtain ⟨es, hes, rfl⟩ := Option.map_eq_some_iff.1 hb
        have hf' : ∀ x ∈ z.cells.toList, flat x = true := fun x hx => Array.all_eq_true_iff_forall_mem.1 c3 x (by simpa using hx)
        have hzl : z.cells.toList.length = k := by simpa using c2
        have zget : ∀ m, m < len * k → ((Array.range (len * k)).map (z.cells[· % z.cells.size]!))[m]? = some (z.cells[m % k]'(by rw [c2]; exact Nat.mod_lt _ c0)) := fun m hm => by
          have hmk : m % k < z.cells.size := by rw [c2]; exact Nat.mod_lt _ c0
          simp only [Array.getElem?_map, Array.getElem?_range, hm, if_true, Option.map_some, c2]
          rw [getElem!_pos z.cells (m % k) hmk]
        have hbear : Bear F φ w k ((Array.range (len * k)).map (z.cells[· % z.cells.size]!)) (List.replicate len (z.cells.toList.map D.sc)) := by
          refine ⟨by simp, fun i e he => ?_, fun x hx => ?_, fun i e j x he hx => ?_⟩
          · rw [List.getElem?_replicate] at he
            split at he
            · cases he; simpa using hzl
            · cases he
          · obtain ⟨m, hm⟩ := List.mem_iff_getElem?.1 hx
            rw [Array.getElem?_toList] at hm
            have hlt := getLt hm
            rw [zget m (by simpa using hlt)] at hm
            cases hm
            exact flat_one (hf' _ (by simp))
          · rw [List.getElem?_replicate] at he
            split at he
            · rename_i hil
              cases he
              have hj := get_lt hx
              simp only [List.length_map, hzl] at hj
              have hlt : i * k + j < len * k := by
                have : (i + 1) * k ≤ len * k := Nat.mul_le_mul_right k hil
                rw [Nat.add_mul] at this; omega
              rw [List.getElem?_map] at hx
              obtain ⟨y, hy, rfl⟩ := Option.map_eq_some_iff.1 hx
              have hmod : (i * k + j) % k = j := by rw [Nat.mul_comm, Nat.mul_add_mod]; exact Nat.mod_eq_of_lt hj
              refine ⟨y, ?_, .sc (hf' y (List.mem_of_getElem? hy))⟩
              rw [zget _ hlt]
              rw [Array.getElem?_toList] at hy
              obtain ⟨hh, he⟩ := Array.getElem?_eq_some_iff.1 hy
              simp only [hmod, he]
            · cases he
        obtain ⟨res, g1, g2, g3⟩ := partsEs_run hes hix hd hbear
        have g3' : es.length = len := by simpa using g3
        have hrun := run_buildSlice0 (P := P) (w := w) hu hk hz c1 g1
        obtain ⟨a1, a2⟩ := more_alloc w (.cells res e)
        have he := Ext.more (φ := φ) a1 a2
        refine ⟨_, _, hrun, φ, he, hi.more a1 a2, ?_⟩
        have hnew : (w.alloc (.cells res e)).heap[w.heap.size]? = some (.cells res e (0, 0)) := heap_alloc_new w _
        have hpr : ∀ o, o < res.size → prot F φ (w.alloc (.cells res e)) w.heap.size o := fun o _ => by
          refine ⟨heap_lt hnew, fun i hi' => ?_, fun i e' hi' => ?_, fun hF => absurd (hi.frB _ _ hF) (by omega)⟩
          · exact absurd (hi.lt hi' rfl) (by omega)
          · exact absurd (hi.lt hi' rfl) (by omega)
        have := (g2.ext he).den hnew (fun i _ => rfl) hpr len ⟨by omega, by
          have : len * 1 ≤ len * k := Nat.mul_le_mul_left len c0
          omega⟩
        rw [g3'] at this
        exact .full this g3'
      · cases hb
    · cases hb
  · cases hb
end
end Go.Proofs.Ytfcbpdokilidgaa
