/- The pure step of an operation is what the model's operation does: stores, fields, indexes, literals. No program stands here. -/
import Derived.Test.YtfcbpdokilidgaaVsD
import Derived.Great.BuildSlice
namespace Go.Proofs.Ytfcbpdokilidgaa
open Go Go.RowKit
set_option linter.unusedVariables false
set_option linter.unusedSimpArgs false
variable {F : Fr}

theorem splice_get {α : Type} (l m : List α) (off : Nat) (h : off + m.length ≤ l.length) (j : Nat) :
    (l.take off ++ m ++ l.drop (off + m.length))[j]? = if j < off then l[j]? else if j < off + m.length then m[j - off]? else l[j]? := by
  have ht : (l.take off).length = off := by simp; omega
  by_cases h1 : j < off
  · rw [if_pos h1, List.append_assoc, List.getElem?_append_left (by omega), List.getElem?_take, if_pos h1]
  · rw [if_neg h1]
    by_cases h2 : j < off + m.length
    · rw [if_pos h2, List.getElem?_append_left (by simp; omega), List.getElem?_append_right (by omega), ht]
    · rw [if_neg h2, List.getElem?_append_right (by simp; omega), List.getElem?_drop]
      congr 1
      simp; omega
theorem splice_len {α : Type} (l m : List α) (off : Nat) (h : off + m.length ≤ l.length) : (l.take off ++ m ++ l.drop (off + m.length)).length = l.length := by
  simp; omega

section
variable {P : Program} {F : Fr} {φ : List Pl} {w : World}

theorem cells_den {r : Value} {v : V} (h : Den F φ w r v) (h1 : (cellsV v).all isOne = true) :
    DenL F φ w r.cells.toList (cellsV v) ∧ ∀ x ∈ r.cells.toList, x.oneCell' = true := by
  have one : isOne v = true → (cellsV v) = [v] → DenL F φ w r.cells.toList (cellsV v) ∧ ∀ x ∈ r.cells.toList, x.oneCell' = true := fun ho hc => by
    have hr := h.one ho
    have e : r.cells = #[r] := by cases r <;> first | rfl | simp [Value.oneCell'] at hr
    rw [e, hc]
    exact ⟨.cons h .nil, by simp [hr]⟩
  cases v with
  | agg cs =>
    obtain ⟨rs, rfl, hs, ho, hd⟩ := h.aggInv
    exact ⟨.of_get (by simpa [Value.cells, cellsV] using hs) (fun i r v hr hv => hd i r v (by simpa [Value.cells] using hr) hv), fun x hx => by
      obtain ⟨i, hi⟩ := List.mem_iff_getElem?.1 hx
      exact ho i x (by simpa [Value.cells] using hi)⟩
  | tup cs => simp [cellsV, isOne] at h1
  | _ => exact one rfl rfl

theorem storeVar_row (b off : Nat) (t : TypeId) (s : Value) (cur : Array Value) (T : TypeId) (hg : w.heap[b]? = some (.cells cur T (0, 0))) (hsz : szT P t = some s.cells.size)
    (hle : off + s.cells.size ≤ cur.size) (h1 : ∀ x ∈ s.cells.toList, x.oneCell' = true) :
    (Instr.storeAt t (.pointer (some ⟨b, off, none⟩)) s).run P w = .ok () (w.setRow b (cur.toList.take off ++ s.cells.toList ++ cur.toList.drop (off + s.cells.toList.length)).toArray) := by
  have := run_storeCells_at (P := P) b off T s.cells.toList 0 cur w hg (by simpa using hle) h1
  simp only [Nat.add_zero] at this
  unfold szT at hsz
  cases hq : P.info? t with
  | none => simp [hq] at hsz
  | some i =>
    have hs : s.cells.size = i.size := by simp [hq] at hsz; omega
    simp [Instr.storeAt, Instr.sureAddr, storeVar, sizeOf, typeInfo, hq, hs, this]

theorem storeV_run {h h' : List Ho} (hi : Inv F φ w h) {t : TypeId} {p v : V} (hl : storeV P h t p v = some h') {r s : Value} (hr : Den F φ w r p) (hs : Den F φ w s v) :
    ∃ w', (Instr.storeAt t r s).run P w = .ok () w' ∧ Ext φ w φ w' ∧ Inv F φ w' h' := by
  unfold storeV at hl
  split at hl
  · rename_i o off
    obtain ⟨b, rfl, ho, hb⟩ := hr.ptrInv
    split at hl
    · rename_i cs hcs
      split at hl
      · rename_i hc
        obtain ⟨hsz, hone, hle⟩ := hc
        cases hl
        obtain ⟨p, hp, hpn⟩ := ho
        have hok := hi.ok o p _ hp hcs
        cases p <;> simp only [ObOk] at hok
        rename_i b'
        have := hb b' hp
        subst this
        obtain ⟨arr, ⟨T, hrow⟩, hlen, hd⟩ := hok
        obtain ⟨hden, h1⟩ := cells_den hs hone
        have hn := hden.length
        rw [Array.length_toList] at hn
        have hrun := storeVar_row (P := P) b' off t s arr T hrow (by rw [hsz, hn]) (by omega) h1
        have hap : ∀ (j : Nat) (q : Pl), φ[j]? = some q → q.blk = some b' → j = o := fun j q hq hqb => hi.apart j o q _ b' hq hp hqb rfl
        have hlt : b' < w.heap.size := heap_lt hrow
        have hsize := size_setRow w b' (arr.toList.take off ++ s.cells.toList ++ arr.toList.drop (off + s.cells.toList.length)).toArray
        have hoth : ∀ k, k ≠ b' → (w.setRow b' (arr.toList.take off ++ s.cells.toList ++ arr.toList.drop (off + s.cells.toList.length)).toArray).heap[k]? = w.heap[k]? := fun k hk => setRow_other w b' k _ hk
        have hext := Ext.atObj hp hap hsize hoth
        refine ⟨_, hrun, hext, hi.atObj hp hsize hoth ?_⟩
        have hL : s.cells.toList.length = (cellsV v).length := by simpa using hn
        refine ⟨_, ⟨T, setRow_heap w b' arr _ T _ hrow⟩, ?_, fun j x hx => ?_⟩
        · rw [splice_len _ _ _ (by omega)]
          simp only [List.size_toArray]
          rw [splice_len _ _ _ (by simp; omega)]
          simpa using hlen
        · rw [splice_get _ _ _ (by omega)] at hx
          simp only [List.getElem?_toArray]
          rw [splice_get _ _ _ (by simp; omega)]
          by_cases g1 : j < off
          · rw [if_pos g1] at hx ⊢
            obtain ⟨u, a1, a2, a3⟩ := hd j x hx
            exact ⟨u, by simpa using a1, a2, a3.ext hext⟩
          · rw [if_neg g1] at hx ⊢
            by_cases g2 : j < off + (cellsV v).length
            · rw [if_pos g2] at hx
              rw [if_pos (by rw [hL]; exact g2)]
              obtain ⟨u, hu⟩ := ofLtL (xs := s.cells.toList) (i := j - off) (by omega)
              exact ⟨u, hu, h1 u (List.mem_of_getElem? hu), (hden.get _ u x hu hx).ext hext⟩
            · rw [if_neg g2] at hx
              rw [if_neg (by rw [hL]; exact g2)]
              obtain ⟨u, a1, a2, a3⟩ := hd j x hx
              exact ⟨u, by simpa using a1, a2, a3.ext hext⟩
      · cases hl
    · cases hl
  · cases hl

theorem partV_run {e : TypeId} {cs : List V} {off : Nat} {v : V} (h : partV P e cs off = some v) {d : TypeDesc} (hu : P.underlying e = some d) {rs : Array Value} (hs : rs.size = cs.length)
    (h1 : ∀ (i : Nat) (r : Value), rs[i]? = some r → r.oneCell' = true) (hd : ∀ (i : Nat) (r : Value) (v : V), rs[i]? = some r → cs[i]? = some v → Den F φ w r v) :
    ∃ u, (part e rs off).run P w = .ok u w ∧ Den F φ w u v := by
  unfold partV at h
  split at h
  · rename_i hag
    split at h
    · rename_i n hn
      cases h
      have hi : ∃ i, P.info? e = some i ∧ i.size = n := by
        unfold szT at hn
        cases hq : P.info? e with
        | none => simp [hq] at hn
        | some i => exact ⟨i, rfl, by simpa [hq] using hn⟩
      obtain ⟨i, hi, hin⟩ := hi
      have hrun : (part e rs off).run P w = .ok (.agg (rs.extract off (off + n))) w := by
        unfold aggT at hag
        rw [hu] at hag
        cases d <;> simp at hag <;> simp [part, isAgg, run_underlying hu, sizeOf, typeInfo, hi, hin]
      refine ⟨_, hrun, .agg (by simp; omega) (fun j r hr => ?_) fun j r v hr hv => ?_⟩
      · rw [Array.getElem?_extract] at hr
        split at hr
        · exact h1 _ r hr
        · cases hr
      · rw [Array.getElem?_extract] at hr
        split at hr
        · rw [List.getElem?_take] at hv
          split at hv
          · rw [List.getElem?_drop] at hv
            exact hd _ r v hr hv
          · cases hv
        · cases hr
    · cases h
  · rename_i hag
    obtain ⟨r, hr⟩ := ofLt (xs := rs) (i := off) (by rw [hs]; exact get_lt h)
    exact ⟨r, run_part_one (by simpa using hag) hu hr, hd off r v hr h⟩

theorem und_of_sz {t : TypeId} {n : Nat} (h : szT P t = some n) (hn : ∃ d, P.underlying t = some d) : ∃ d, P.underlying t = some d := hn

theorem fieldOf_spec {s : TypeId} {f fo : Nat} {t : TypeId} (h : fieldOf P s f = some (fo, t)) : ∃ (fs : Array Field) (x : Field) (n : Nat), P.underlying s = some (.struct fs) ∧ fs[f]? = some x ∧ x.offset = fo ∧ x.type = t ∧ szT P t = some n ∧ n ≠ 0 := by
  unfold fieldOf at h
  split at h
  · rename_i fs hu
    split at h
    · rename_i x hx
      split at h
      · cases h
      · rename_i hn
        cases h
        cases hz : szT P x.type with
        | none => exact absurd (.inl hz) hn
        | some n => exact ⟨fs, x, n, hu, hx, rfl, rfl, rfl, fun e => hn (.inr (by rw [hz, e]))⟩
    · cases h
  · cases h

theorem fieldAddr_run {s : TypeId} {f fo : Nat} {t : TypeId} (h : fieldOf P s f = some (fo, t)) (b off : Nat) :
    (Instr.fieldAt s (.pointer (some ⟨b, off, none⟩)) f).run P w = .ok (.pointer (some ⟨b, off + fo, none⟩)) w := by
  obtain ⟨fs, x, n, hu, hx, rfl, rfl, hz, hn⟩ := fieldOf_spec h
  have hs : (sizeOf x.type).run P w = .ok n w := by
    unfold szT at hz
    cases hq : P.info? x.type with
    | none => simp [hq] at hz
    | some i => simp [sizeOf, typeInfo, hq]; simpa [hq] using hz
  simp [Instr.fieldAt, run_underlying hu, hx, Instr.sureAddr, fieldPlace, hs, hn, add_addr]
end
end Go.Proofs.Ytfcbpdokilidgaa
