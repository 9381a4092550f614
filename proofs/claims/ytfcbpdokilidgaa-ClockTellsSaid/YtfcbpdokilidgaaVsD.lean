/- The pure step of an operation is what the model's operation does: two operands, parts, loads, addresses. No program stands here. -/
import Derived.Test.YtfcbpdokilidgaaVsC
import Derived.Deep.MidRow
import Derived.Laws.IdiomStrings
import Derived.Laws.BytesString
namespace Go.Proofs.Ytfcbpdokilidgaa
open Go Go.RowKit
set_option linter.unusedVariables false
set_option linter.unusedSimpArgs false
variable {F : Fr}

section
variable {P : Program} {F : Fr} {φ : List Pl} {w : World}

theorem Den.aggInv {r : Value} {cs : List V} (h : Den F φ w r (.agg cs)) : ∃ rs : Array Value, r = .agg rs ∧ rs.size = cs.length ∧ (∀ (i : Nat) (r : Value), rs[i]? = some r → r.oneCell' = true) ∧ ∀ (i : Nat) (r : Value) (v : V), rs[i]? = some r → cs[i]? = some v → Den F φ w r v := by
  cases h with
  | agg hs h1 h => exact ⟨_, rfl, hs, h1, h⟩
theorem Den.tupInv {r : Value} {cs : List V} (h : Den F φ w r (.tup cs)) : ∃ rs : Array Value, r = .tuple rs ∧ rs.size = cs.length ∧ ∀ (i : Nat) (r : Value) (v : V), rs[i]? = some r → cs[i]? = some v → Den F φ w r v := by
  cases h with
  | tup hs h => exact ⟨_, rfl, hs, h⟩
theorem Den.fnInv {r : Value} {f : Nat} {cs : List V} (h : Den F φ w r (.fn f cs)) : ∃ rs : Array Value, r = .func (.func f) #[] rs ∧ rs.size = cs.length ∧ ∀ (i : Nat) (r : Value) (v : V), rs[i]? = some r → cs[i]? = some v → Den F φ w r v := by
  cases h with
  | fn hs h => exact ⟨_, rfl, hs, h⟩
theorem Den.ptrInv {r : Value} {o off : Nat} (h : Den F φ w r (.ptr o off)) : ∃ b, r = .pointer (some ⟨b, off, none⟩) ∧ lv φ o ∧ ∀ b', φ[o]? = some (Pl.obj b') → b' = b := by
  cases h with
  | ptr ho h => exact ⟨_, rfl, ho, h⟩
theorem Den.epInv {r : Value} {cells : List D} {off : Nat} (h : Den F φ w r (.ep cells off)) : ∃ (b at_ : Nat) (c : Nat → Value), r = .pointer (some ⟨b, at_ + off, none⟩) ∧ (∀ j, j < cells.length → cellP F φ w b (at_ + j) (c j)) ∧ ∀ (j : Nat) (x : D), cells[j]? = some x → DenD F φ w (c j) x := by
  cases h with
  | ep c ha hc hd => subst ha; exact ⟨_, _, c, rfl, hc, hd⟩

theorem getLt {α : Type} {xs : Array α} {i : Nat} {x : α} (h : xs[i]? = some x) : i < xs.size := by
  rcases Nat.lt_or_ge i xs.size with h1 | h1
  · exact h1
  · rw [Array.getElem?_eq_none h1] at h; cases h
theorem ofLt {α : Type} {xs : Array α} {i : Nat} (h : i < xs.size) : ∃ x, xs[i]? = some x := ⟨xs[i], Array.getElem?_eq_getElem h⟩
theorem ofLtL {α : Type} {xs : List α} {i : Nat} (h : i < xs.length) : ∃ x, xs[i]? = some x := ⟨xs[i], List.getElem?_eq_getElem h⟩

theorem run_part_one {e : TypeId} (h : aggT P e = false) {d : TypeDesc} (hu : P.underlying e = some d) {rs : Array Value} {off : Nat} {r : Value} (hr : rs[off]? = some r) : (part e rs off).run P w = .ok r w := by
  unfold aggT at h
  rw [hu] at h
  cases d <;> simp at h <;> simp [part, isAgg, run_underlying hu, hr]

theorem eqInts_run {e : TypeId} {q : IntKind} (hu : P.underlying e = some (.int q)) (d : Nat) : ∀ (xs ys : List V) (j : Nat) (rs ss : Array Value) (b : Bool), eqInts xs ys = some b →
    (∀ i v, xs[i]? = some v → ∃ r, rs[j + i]? = some r ∧ Den F φ w r v) → (∀ i v, ys[i]? = some v → ∃ r, ss[j + i]? = some r ∧ Den F φ w r v) →
    (Op.eqItems (d + 1) e 1 rs ss (List.range' j xs.length)).run P w = .ok b w
  | [], [], j, rs, ss, b, h, _, _ => by simp only [eqInts] at h; cases h; simp [Op.eqItems]
  | v :: xs, [], j, rs, ss, b, h, _, _ => by simp [eqInts] at h
  | [], v :: ys, j, rs, ss, b, h, _, _ => by simp [eqInts] at h
  | v :: xs, u :: ys, j, rs, ss, b, h, h1, h2 => by
    unfold eqInts at h
    split at h
    · rename_i h0; cases h0
    · rename_i k a xs' k' a' ys' e1 e2
      cases e1; cases e2
      split at h
      · rename_i hk
        subst hk
        obtain ⟨r, hr, hd⟩ := h1 0 _ rfl
        obtain ⟨s, hs, hd'⟩ := h2 0 _ rfl
        obtain ⟨rfl, _⟩ := hd.sc
        obtain ⟨rfl, _⟩ := hd'.sc
        have hag : aggT P e = false := by unfold aggT; rw [hu]
        obtain ⟨b', hb', rfl⟩ := Option.map_eq_some_iff.1 h
        have ih := eqInts_run hu d xs ys (j + 1) rs ss b' hb' (fun i v hv => by have := h1 (i + 1) v hv; rwa [show j + (i + 1) = j + 1 + i by omega] at this) (fun i v hv => by have := h2 (i + 1) v hv; rwa [show j + (i + 1) = j + 1 + i by omega] at this)
        simp only [Nat.add_zero] at hr hs
        simp only [List.length_cons, List.range'_succ, Op.eqItems, Nat.mul_one, Sem.run_bind, run_part_one hag hu hr, run_part_one hag hu hs, Result.andThen_ok, run_equalIn_int w d e k q a a' hu, Sem.run_ite]
        cases hh : (a == a')
        · simp
        · simp only [Bool.not_true, Bool.false_eq_true, if_false, Bool.true_and]; exact ih
      · cases h
    · cases h

theorem eqV_run {t : TypeId} {xs ys : List V} {b : Bool} (h : eqV P t xs ys = some b) {r s : Value} (hr : Den F φ w r (.agg xs)) (hs : Den F φ w s (.agg ys)) :
    (Op.equal t r s).run P w = .ok b w ∧ P.eqGuardType P.depth t = false := by
  unfold eqV at h
  split at h
  · rename_i n e hu
    split at h
    · rename_i hc
      obtain ⟨h1, h2, h3, h4, h5⟩ := hc
      obtain ⟨rs, rfl, hrs, _, hrd⟩ := hr.aggInv
      obtain ⟨ss, rfl, hss, _, hsd⟩ := hs.aggInv
      unfold isIntT at h1
      split at h1
      · rename_i q hq
        obtain ⟨i, hi⟩ := info_of_underlying hq
        have hce : P.cellsOf e = 1 := by
          unfold szT at h2; unfold Program.cellsOf; rw [h2]; rfl
        refine ⟨?_, h3⟩
        have := eqInts_run (P := P) (φ := φ) (w := w) hq 9998 xs ys 0 rs ss b h (fun i v hv => by
          obtain ⟨r, hr⟩ := ofLt (xs := rs) (i := i) (by rw [hrs]; exact get_lt hv)
          exact ⟨r, by simpa using hr, hrd i r v hr hv⟩) (fun i v hv => by
          obtain ⟨r, hr⟩ := ofLt (xs := ss) (i := i) (by rw [hss]; exact get_lt hv)
          exact ⟨r, by simpa using hr, hsd i r v hr hv⟩)
        show (Op.equalIn (9999 + 1) t (.agg rs) (.agg ss)).run P w = _
        rw [run_equalIn_array w 9999 rs ss hu hi, hce, List.range_eq_range', ← h4]
        exact this
      · cases h1
    · cases h
  · cases h

theorem binV_run {op : BinOp} {t : TypeId} {a b v : V} (h : binV P op t a b = some v) {r s : Value} (hr : Den F φ w r a) (hs : Den F φ w s b) (x y : Operand) :
    ∃ u, ((do eqGuard op t x y r s; binOp op t r s : Sem Value)).run P w = .ok u w ∧ Den F φ w u v := by
  unfold binV at h
  split at h
  · obtain ⟨rfl, _⟩ := hr.sc
    obtain ⟨rfl, _⟩ := hs.sc
    obtain ⟨u, hu, rfl⟩ := Option.map_eq_some_iff.1 h
    obtain ⟨h1, h2⟩ := scBin_run w hu x y
    exact ⟨u, h1, den_sc h2⟩
  · obtain ⟨rfl, _⟩ := hs.sc
    obtain ⟨b, rfl, _⟩ := hr.ptrInv
    split at h
    · rename_i hp
      unfold isPtrT at hp
      split at hp
      · rename_i e hu
        have hg : ∀ (op : BinOp) (n : Nat), (eqGuard op t x y (.pointer (some ⟨b, n, none⟩)) (.pointer none)).run P w = .ok () w := fun op n => by
          unfold eqGuard; cases op <;> simp
        split at h <;> cases h
        · exact ⟨.bool false, by simp only [Sem.run_bind, hg, Result.andThen_ok, binOp, run_equal_ptrnil w _ hu, Sem.run_pure, Sem.run_map], den_sc rfl⟩
        · exact ⟨.bool true, by simp only [Sem.run_bind, hg, Result.andThen_ok, binOp, run_equal_ptrnil w _ hu, Sem.run_pure, Sem.run_map, Bool.not_false], den_sc rfl⟩
      · cases hp
    · cases h
  · split at h
    · obtain ⟨b, hb, rfl⟩ := Option.map_eq_some_iff.1 h
      obtain ⟨h1, h2⟩ := eqV_run hb hr hs
      obtain ⟨rs, rfl, _⟩ := hr.aggInv
      obtain ⟨ss, rfl, _⟩ := hs.aggInv
      have hg : (eqGuard .eql t x y (.agg rs) (.agg ss)).run P w = .ok () w := by
        unfold eqGuard; simp [h2]
      exact ⟨.bool b, by simp only [Sem.run_bind, hg, Result.andThen_ok, binOp, h1, Sem.run_pure, Sem.run_map], den_sc rfl⟩
    · obtain ⟨b, hb, rfl⟩ := Option.map_eq_some_iff.1 h
      obtain ⟨h1, h2⟩ := eqV_run hb hr hs
      obtain ⟨rs, rfl, _⟩ := hr.aggInv
      obtain ⟨ss, rfl, _⟩ := hs.aggInv
      have hg : (eqGuard .neq t x y (.agg rs) (.agg ss)).run P w = .ok () w := by
        unfold eqGuard; simp [h2]
      exact ⟨.bool !b, by simp only [Sem.run_bind, hg, Result.andThen_ok, binOp, h1, Sem.run_pure, Sem.run_map], den_sc rfl⟩
    · cases h
  · cases h

theorem unV_run {op : UnOp} {a v : V} (h : unV op a = some v) {r : Value} (hr : Den F φ w r a) : ∃ u, (Op.unary op r).run P w = .ok u w ∧ Den F φ w u v := by
  unfold unV at h
  split at h
  · obtain ⟨rfl, _⟩ := hr.sc
    split at h <;> cases h
    · exact ⟨_, by simp [Op.unary, Op.intArith], den_sc rfl⟩
    · exact ⟨_, by simp [Op.unary, Op.intBits], den_sc rfl⟩
  · obtain ⟨rfl, _⟩ := hr.sc
    split at h <;> cases h
    exact ⟨_, by simp [Op.unary], den_sc rfl⟩
  · cases h

/-! ### Slices by their elements -/
theorem esOf_den {k : Nat} {v : V} {es : List (List D)} (h : esOf k v = some es) {r : Value} (hr : Den F φ w r v) : DenD F φ w r (.sl k es) := by
  unfold esOf at h
  split at h
  · split at h
    · rename_i hk; cases h; subst hk
      cases hr with
      | d h => exact h
    · cases h
  · split at h
    · rename_i hk; cases h; subst hk
      cases hr with
      | own ht h => exact h
      | ownNil => exact .nil
    · cases h
  · split at h
    · rename_i hk; cases h; subst hk
      cases hr with
      | full h => exact h
    · cases h
  · cases h
    obtain ⟨rfl, _⟩ := hr.sc
    exact .nil
  · cases h

theorem toD_den {v : V} {x : D} (h : toD v = some x) {r : Value} (hr : Den F φ w r v) : DenD F φ w r x := by
  unfold toD at h
  split at h <;> cases h
  · cases hr with
    | d h => exact h
  · exact esOf_den (k := _) (v := .own _ _ _) (by simp [esOf]) hr
  · exact esOf_den (k := _) (v := .full _ _) (by simp [esOf]) hr

theorem DenD.slInv {r : Value} {k : Nat} {es : List (List D)} (h : DenD F φ w r (.sl k es)) : (∃ a, r = .slice a 0 0 ∧ es = []) ∨
    ∃ (cap b off : Nat) (c : Nat → Nat → Value), r = .slice (some ⟨b, off, none⟩) es.length cap ∧ (es.length ≤ cap ∧ cap ≤ 9223372036854775807) ∧ (∀ (i : Nat) (e : List D), es[i]? = some e → e.length = k) ∧
      (∀ i j, i < es.length → j < k → cellP F φ w b (off + i * k + j) (c i j)) ∧ ∀ (i : Nat) (e : List D) (j : Nat) (x : D), es[i]? = some e → e[j]? = some x → DenD F φ w (c i j) x := by
  cases h with
  | nil => exact .inl ⟨_, rfl, rfl⟩
  | sl c hn hcap hk hc hd =>
    subst hn
    exact .inr ⟨_, _, _, c, rfl, hcap, hk, hc, hd⟩

theorem cellP_cell {b o : Nat} {v : Value} (h : cellP F φ w b o v) : w.cell? ⟨b, o, none⟩ = some v := h.2

theorem add_addr (b off n : Nat) : (⟨b, off, none⟩ : Addr).add n = ⟨b, off + n, none⟩ := by unfold Addr.add; split <;> simp_all

/-! ### Loads -/
theorem loadV_run {h : List Ho} (hi : Inv F φ w h) {t : TypeId} {p v : V} (hl : loadV P h t p = some v) {d : TypeDesc} (hu : P.underlying t = some d) {r : Value} (hr : Den F φ w r p) :
    ∃ u, (Instr.loadAt t r).run P w = .ok u w ∧ Den F φ w u v := by
  have one : ∀ (b o : Nat) (x : Value), aggT P t = false → w.cell? ⟨b, o, none⟩ = some x → (Instr.loadAt t (.pointer (some ⟨b, o, none⟩))).run P w = .ok x w := by
    intro b o x hag hc
    unfold aggT at hag
    rw [hu] at hag
    cases d <;> simp at hag <;> simp [Instr.loadAt, Instr.sureAddr, loadVar, isAgg, run_underlying hu, hc]
  have many : ∀ (b o n : Nat) (f : Nat → Value), aggT P t = true → szT P t = some n → (∀ j, j < n → w.cell? ⟨b, o + j, none⟩ = some (f j)) →
      (Instr.loadAt t (.pointer (some ⟨b, o, none⟩))).run P w = .ok (.agg ((List.range n).map f).toArray) w := by
    intro b o n f hag hn hc
    have hd : d.isRow = true := by
      unfold aggT at hag; rw [hu] at hag
      cases d <;> simp at hag <;> rfl
    refine run_loadAt_mid w b o t ((List.range n).map f) d (fun j v hv => ?_) hu hd ?_
    · rw [List.getElem?_map] at hv
      obtain ⟨j', hj', rfl⟩ := Option.map_eq_some_iff.1 hv
      have := get_lt hj'
      simp only [List.length_range] at this
      rw [List.getElem?_range this] at hj'; cases hj'
      exact hc j this
    · unfold szT at hn; rw [hn]; simp
  unfold loadV at hl
  split at hl
  · rename_i o off
    obtain ⟨b, rfl, ho, hb⟩ := hr.ptrInv
    split at hl
    · rename_i cs hcs
      obtain ⟨p, hp, hpn⟩ := ho
      have hok := hi.ok o p _ hp hcs
      cases p <;> simp only [ObOk] at hok
      rename_i b'
      have := hb b' hp
      subst this
      obtain ⟨arr, ⟨T, hrow⟩, hlen, hd⟩ := hok
      have cell : ∀ (j : Nat) (x : V), cs[j]? = some x → ∃ u, w.cell? ⟨b', j, none⟩ = some u ∧ u.oneCell' = true ∧ Den F φ w u x := fun j x hx => by
        obtain ⟨u, h1, h2, h3⟩ := hd j x hx
        exact ⟨u, (cell_of w b' j u).2 ⟨arr, T, _, hrow, h1⟩, h2, h3⟩
      split at hl
      · rename_i hag
        split at hl
        · rename_i n hn
          split at hl
          · rename_i hle
            cases hl
            have hf : ∀ j, ∃ u : Value, j < n → w.cell? ⟨b', off + j, none⟩ = some u ∧ u.oneCell' = true ∧ ∀ x, cs[off + j]? = some x → Den F φ w u x := fun j => by
              by_cases hj : j < n
              · obtain ⟨x, hx⟩ := ofLtL (xs := cs) (i := off + j) (by omega)
                obtain ⟨u, h1, h2, h3⟩ := cell _ x hx
                exact ⟨u, fun _ => ⟨h1, h2, fun y hy => by rw [hx] at hy; cases hy; exact h3⟩⟩
              · exact ⟨undef, fun h => absurd h hj⟩
            obtain ⟨f, hf⟩ : ∃ f : Nat → Value, ∀ j, j < n → w.cell? ⟨b', off + j, none⟩ = some (f j) ∧ (f j).oneCell' = true ∧ ∀ x, cs[off + j]? = some x → Den F φ w (f j) x := ⟨fun j => Classical.choose (hf j), fun j => Classical.choose_spec (hf j)⟩
            refine ⟨_, many b' off n f hag hn (fun j hj => (hf j hj).1), ?_⟩
            refine .agg (by simp; omega) (fun i r hr => ?_) fun i r v hr hv => ?_
            · have hlt := getLt hr
              simp only [List.size_toArray, List.length_map, List.length_range] at hlt
              simp [hlt] at hr
              subst hr
              exact (hf i hlt).2.1
            · have hlt := getLt hr
              simp only [List.size_toArray, List.length_map, List.length_range] at hlt
              simp [hlt] at hr
              subst hr
              rw [List.getElem?_take, if_pos hlt, List.getElem?_drop] at hv
              exact (hf i hlt).2.2 v hv
          · cases hl
        · cases hl
      · rename_i hag
        obtain ⟨u, h1, _, h3⟩ := cell off v hl
        exact ⟨u, one b' off u (by simpa using hag) h1, h3⟩
    · cases hl
  · rename_i cs off
    obtain ⟨b, at_, c, rfl, hc, hd⟩ := hr.epInv
    split at hl
    · rename_i hag
      split at hl
      · rename_i n hn
        split at hl
        · rename_i hle
          cases hl
          have hcell : ∀ j, j < n → w.cell? ⟨b, at_ + off + j, none⟩ = some (c (off + j)) := fun j hj => by
            have := (hc (off + j) (by omega)).2
            rwa [← Nat.add_assoc] at this
          refine ⟨_, many b (at_ + off) n (fun j => c (off + j)) hag hn hcell, ?_⟩
          have hden : ∀ i, i < n → ∃ x, cs[off + i]? = some x ∧ DenD F φ w (c (off + i)) x := fun i hi => by
            obtain ⟨x, hx⟩ := ofLtL (xs := cs) (i := off + i) (by omega)
            exact ⟨x, hx, hd _ x hx⟩
          refine .agg (by simp; omega) (fun i r hr => ?_) fun i r v hr hv => ?_
          · have hlt := getLt hr
            simp only [List.size_toArray, List.length_map, List.length_range] at hlt
            simp [hlt] at hr
            subst hr
            obtain ⟨x, _, h2⟩ := hden i hlt
            exact h2.one
          · have hlt := getLt hr
            simp only [List.size_toArray, List.length_map, List.length_range] at hlt
            simp [hlt] at hr
            subst hr
            obtain ⟨x, h1, h2⟩ := hden i hlt
            rw [List.getElem?_map, List.getElem?_take, if_pos hlt, List.getElem?_drop, h1] at hv
            cases hv
            exact .d h2
        · cases hl
      · cases hl
    · rename_i hag
      obtain ⟨x, hx, rfl⟩ := Option.map_eq_some_iff.1 hl
      exact ⟨c off, one b (at_ + off) _ (by simpa using hag) (hc off (get_lt hx)).2, .d (hd off x hx)⟩
  · cases hl
end
end Go.Proofs.Ytfcbpdokilidgaa
