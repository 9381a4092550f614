/- The pure step of an operation is what the model's operation does: slices of an object's cells that are made, grow and are copied; maps. No program stands here. -/
import Derived.Test.YtonllhjmoenckaaDoorVsH
import Derived.MapKept
namespace Go.Proofs.YtonllhjmoenckaaDoor
open Go Go.RowKit
set_option linter.unusedVariables false
set_option linter.unusedSimpArgs false
variable {F : Fr}

theorem flat_get {α : Type} {k : Nat} : ∀ {es : List (List α)}, (∀ (i : Nat) (e : List α), es[i]? = some e → e.length = k) → ∀ (i j : Nat), j < k → es.flatten[i * k + j]? = (es[i]?).bind fun e => e[j]?
  | [], _, i, j, _ => by simp
  | e :: es, h, 0, j, hj => by
    have he := h 0 e rfl
    simp only [List.flatten_cons, Nat.zero_mul, Nat.zero_add, List.getElem?_cons_zero, Option.bind_some]
    rw [List.getElem?_append_left (by rw [he]; exact hj)]
  | e :: es, h, i + 1, j, hj => by
    have he := h 0 e rfl
    have ih := flat_get (es := es) (fun i e he => h (i + 1) e he) i j hj
    simp only [List.flatten_cons, List.getElem?_cons_succ]
    rw [List.getElem?_append_right (by rw [he, Nat.add_mul]; omega), he]
    rw [show (i + 1) * k + j - k = i * k + j by rw [Nat.add_mul]; omega]
    exact ih
theorem flat_len {α : Type} {k : Nat} : ∀ {es : List (List α)}, (∀ (i : Nat) (e : List α), es[i]? = some e → e.length = k) → es.flatten.length = es.length * k
  | [], _ => by simp
  | e :: es, h => by
    have ih := flat_len (es := es) fun i e he => h (i + 1) e he
    have he := h 0 e rfl
    simp only [List.flatten_cons, List.length_append, ih, he, List.length_cons, Nat.add_mul]; omega

section
variable {P : Program} {F : Fr} {φ : List Pl} {w : World}

/-- Cells that bear values. -/
def Cells (F : Fr) (φ : List Pl) (w : World) (l : List Value) (xs : List V) : Prop := DenL F φ w l xs ∧ ∀ x ∈ l, x.oneCell' = true
theorem Cells.ext {φ' : List Pl} {w' : World} (he : Ext φ w φ' w') {l : List Value} {xs : List V} (h : Cells F φ w l xs) : Cells F φ' w' l xs := ⟨h.1.ext he, h.2⟩
theorem Cells.append {l m : List Value} {xs ys : List V} (h : Cells F φ w l xs) (h' : Cells F φ w m ys) : Cells F φ w (l ++ m) (xs ++ ys) :=
  ⟨h.1.append h'.1, fun x hx => by exact (List.mem_append.1 hx).elim (fun h1 => h.2 x h1) fun h1 => h'.2 x h1⟩
theorem DenL.take {rs : List Value} {vs : List V} (n : Nat) (h : DenL F φ w rs vs) : DenL F φ w (rs.take n) (vs.take n) :=
  .of_get (by simp [h.length]) fun i r v hr hv => by
    rw [List.getElem?_take] at hr hv
    split at hr
    · rename_i hlt; rw [if_pos hlt] at hv; exact h.get i r v hr hv
    · cases hr
theorem DenL.drop {rs : List Value} {vs : List V} (n : Nat) (h : DenL F φ w rs vs) : DenL F φ w (rs.drop n) (vs.drop n) :=
  .of_get (by simp [h.length]) fun i r v hr hv => by
    rw [List.getElem?_drop] at hr hv
    exact h.get _ r v hr hv
theorem Cells.take {l : List Value} {xs : List V} (n : Nat) (h : Cells F φ w l xs) : Cells F φ w (l.take n) (xs.take n) := ⟨h.1.take n, fun x hx => h.2 x (List.mem_of_mem_take hx)⟩
theorem Cells.drop {l : List Value} {xs : List V} (n : Nat) (h : Cells F φ w l xs) : Cells F φ w (l.drop n) (xs.drop n) := ⟨h.1.drop n, fun x hx => h.2 x (List.mem_of_mem_drop hx)⟩
theorem Cells.nil : Cells F φ w [] [] := ⟨.nil, fun x hx => by cases hx⟩

theorem Bear.cells {k : Nat} {cells : Array Value} {es : List (List D)} (h0 : 0 < k) (h : Bear F φ w k cells es) : Cells F φ w cells.toList (flatD es) := by
  obtain ⟨h1, h2, h3, h4⟩ := h
  refine ⟨.of_get (by unfold flatD; rw [List.length_map, flat_len h2]; simpa using h1) fun q r v hr hv => ?_, h3⟩
  unfold flatD at hv
  rw [List.getElem?_map] at hv
  obtain ⟨x, hx, rfl⟩ := Option.map_eq_some_iff.1 hv
  have hq : q / k * k + q % k = q := by rw [Nat.mul_comm]; exact Nat.div_add_mod q k
  have hm := Nat.mod_lt q h0
  rw [← hq, flat_get h2 _ _ hm] at hx
  obtain ⟨e, he, hx⟩ := Option.bind_eq_some_iff.1 hx
  obtain ⟨u, hu, hd⟩ := h4 _ e _ x he hx
  rw [hq] at hu
  rw [Array.getElem?_toList, hu] at hr
  cases hr
  exact .d hd

/-- The cells of an own object. -/
theorem obj_cells {h : List Ho} (hi : Inv F φ w h) {o : Nat} {cs : List V} (ho : h[o]? = some (.cells cs)) :
    (cs = [] ∧ φ[o]? = some .free) ∨ ∃ (b z : Nat) (arr : Array Value) (T : TypeId), φ[o]? = some (.obj b z) ∧ w.heap[b]? = some (.cells arr T (0, 0)) ∧ arr.size = z ∧ cs.length ≤ z ∧ Cells F φ w (arr.toList.take cs.length) cs := by
  obtain ⟨p, hp⟩ := ofLtL (xs := φ) (i := o) (by rw [hi.len]; exact get_lt ho)
  have hok := hi.ok o p _ hp ho
  cases p <;> simp only [ObOk] at hok
  · rename_i b z
    obtain ⟨arr, ⟨T, hrow⟩, hz, hlen, hd⟩ := hok
    refine .inr ⟨b, z, arr, T, hp, hrow, hz, by omega, .of_get (by simp; omega) fun i r v hr hv => ?_, fun x hx => ?_⟩
    · obtain ⟨u, h1, h2, h3⟩ := hd i v hv
      rw [List.getElem?_take, if_pos (get_lt hv), Array.getElem?_toList, h1] at hr
      cases hr; exact h3
    · obtain ⟨i, hi'⟩ := List.mem_iff_getElem?.1 hx
      rw [List.getElem?_take] at hi'
      split at hi'
      · rename_i hlt
        obtain ⟨v, hv⟩ := ofLtL hlt
        obtain ⟨u, h1, h2, h3⟩ := hd i v hv
        rw [Array.getElem?_toList, h1] at hi'
        cases hi'; exact h2
      · cases hi'
  · exact .inl ⟨hok, hp⟩

/-- What is appended or copied. -/
theorem srcH_run {h : List Ho} (hi : Inv F φ w h) {k : Nat} (h0 : 0 < k) {xt : TypeId} {x : V} {m : Nat} {xs : List V} (hs : srcH P h k xt x = some (m, xs)) {r : Value} (hr : Den F φ w r x) :
    (∃ d, P.underlying xt = some d ∧ ∀ q, d ≠ .int q) ∧ (∀ w', (Builtin.lenOf r).run P w' = .ok m w') ∧ xs.length = m * k ∧
      ∃ news : List Value, Cells F φ w news xs ∧ ∀ n, n ≤ m → ∀ w' : World, w'.heap = w.heap → (Builtin.firstCells k n r).run P w' = .ok (news.take (n * k)).toArray w' := by
  unfold srcH at hs
  split at hs
  · rename_i e hu
    refine ⟨⟨_, hu, by simp⟩, ?_⟩
    split at hs
    · rename_i g k' o off n
      split at hs
      · rename_i cs hcs
        split at hs
        · rename_i hc
          cases hs
          obtain ⟨rfl, hle⟩ := hc
          obtain ⟨ho, hcase⟩ := hsInv hr
          have hxl : ((cs.drop off).take (m * k')).length = m * k' := by simp; omega
          rcases hcase with ⟨b, cap, rfl, hb, hcap, _⟩ | ⟨rfl, a, cap, rfl, ha, _⟩
          · refine ⟨fun w' => by simp [Builtin.lenOf], hxl, ?_⟩
            rcases obj_cells hi hcs with ⟨rfl, hf⟩ | ⟨b', z, arr, T, hp, hrow, hz, hlen, hce⟩
            · have hm0 : m = 0 := by
                have : m * k' = 0 := by simp at hle; omega
                rcases Nat.mul_eq_zero.1 this with h | h
                · exact h
                · omega
              subst hm0
              refine ⟨[], by simpa using Cells.nil, fun n hn w' hw => ?_⟩
              obtain rfl : n = 0 := by omega
              simp [Builtin.firstCells, loadCells, loadCellsFrom]
            · have := (hb b' hp).1
              subst this
              refine ⟨((arr.toList.take cs.length).drop off).take (m * k'), (hce.drop off).take (m * k'), fun n hn w' hw => ?_⟩
              have hnk : n * k' ≤ m * k' := Nat.mul_le_mul_right k' hn
              have := run_firstCells_some (P := P) w' k' n ⟨b', off, none⟩ m cap ((((arr.toList.take cs.length).drop off).take (m * k')).take (n * k')) (by simp; omega) (fun j v hj => by
                rw [List.getElem?_take] at hj
                split at hj
                · rw [List.getElem?_take] at hj
                  split at hj
                  · rw [List.getElem?_drop, List.getElem?_take] at hj
                    split at hj
                    · rw [add_addr]
                      refine (cell_of w' _ _ _).2 ⟨arr, T, _, by rw [hw]; exact hrow, by simpa using hj⟩
                    · cases hj
                  · cases hj
                · cases hj)
              exact this
          · refine ⟨fun w' => by simp [Builtin.lenOf], hxl, [], ?_, fun n hn w' hw => ?_⟩
            · simp; exact Cells.nil
            · obtain rfl : n = 0 := by omega
              cases a with
              | none => simp [Builtin.firstCells]
              | some a => simp [Builtin.firstCells, loadCells, loadCellsFrom]
        · cases hs
      · cases hs
    · rename_i x' hnh
      obtain ⟨es, hes, heq⟩ := Option.map_eq_some_iff.1 hs
      cases heq
      have hd := esOf_den hes hr
      have hkk : ∀ (i : Nat) (e : List D), es[i]? = some e → e.length = k := by
        rcases hd.slInv with ⟨a0, _, rfl⟩ | ⟨_, _, _, _, _, _, hk, _⟩
        · intro i e he; simp at he
        · exact hk
      rcases hd.slInv with ⟨a0, rfl, rfl⟩ | ⟨cap, b, off, c, rfl, _⟩
      · refine ⟨fun w' => by simp [Builtin.lenOf], by simp [flatD], [], by simpa [flatD] using Cells.nil, fun n hn w' hw => ?_⟩
        obtain rfl : n = 0 := by simpa using hn
        cases a0 <;> simp [Builtin.firstCells, loadCells, loadCellsFrom]
      · obtain ⟨cells, hb, hc⟩ := hd.bear h0 rfl
        refine ⟨fun w' => by simp [Builtin.lenOf], by unfold flatD; rw [List.length_map, flat_len hkk], cells.toList, hb.cells h0, fun n hn w' hw => ?_⟩
        have hbs := hb.1
        have hnk : n * k ≤ es.length * k := Nat.mul_le_mul_right k hn
        exact run_firstCells_some (P := P) w' k n ⟨b, off, none⟩ es.length cap (cells.toList.take (n * k)) (by simp; omega) (fun j v hj => by
          rw [List.getElem?_take] at hj
          split at hj
          · have := hc j v hj
            unfold World.cell? at this ⊢
            rw [hw]; exact this
          · cases hj)
  · cases hs

/-- A block for new cells. -/
theorem vec_new {h : List Ho} (hi : Inv F φ w h) {rn : Nat} (hrn : φ[rn]? = some .yet) {w' : World} {arr : Array Value} {T : TypeId} {k n cap : Nat} {xs : List V} (hs : w.heap.size ≤ w'.heap.size) (hk : ∀ b, b < w.heap.size → w'.heap[b]? = w.heap[b]?) (hio : Still w w')
    (hnew : w'.heap[w.heap.size]? = some (.cells arr T (0, 0))) (hsz : arr.size = cap * k) (hn : n ≤ cap ∧ cap ≤ 9223372036854775807) (hl : xs.length ≤ arr.size) (hx : Cells F φ w (arr.toList.take xs.length) xs) :
    ∃ φ', Ext φ w φ' w' ∧ Inv F φ' w' (h.set rn (.cells xs)) ∧ Den F φ' w' (.slice (some ⟨w.heap.size, 0, none⟩) n cap) (.hs true k rn 0 n) := by
  have hp : ∀ b, (Pl.obj w.heap.size (cap * k)).blk = some b → w.heap.size ≤ b := fun b hb => by cases hb; exact Nat.le_refl _
  have he := Ext.fill (φ := φ) (.obj w.heap.size (cap * k)) hrn hs hk hp hio
  have hat : (φ.set rn (.obj w.heap.size (cap * k)))[rn]? = some (.obj w.heap.size (cap * k)) := List.getElem?_set_self (get_lt hrn)
  refine ⟨_, he, hi.fill _ _ hrn hs hk hp ⟨arr, ⟨T, hnew⟩, hsz, hl, fun j v hv => ?_⟩ hio, .hs ⟨_, hat, by simp⟩ (fun b' hb' => ?_) hn (fun _ hf => by rw [hat] at hf; cases hf)⟩
  · obtain ⟨u, hu⟩ := ofLtL (xs := arr.toList.take xs.length) (i := j) (by rw [hx.1.length]; exact get_lt hv)
    refine ⟨u, ?_, hx.2 u (List.mem_of_getElem? hu), (hx.1.get j u v hu hv).ext he⟩
    rw [List.getElem?_take, if_pos (get_lt hv)] at hu
    simpa using hu
  · rw [hat] at hb'; cases hb'
    exact ⟨rfl, fun _ => by omega⟩

theorem den_nilH {h : List Ho} (hi : Inv F φ w h) {rn : Nat} (hrn : φ[rn]? = some .yet) {k : Nat} (a : Option Addr) :
    ∃ φ', Ext φ w φ' w ∧ Inv F φ' w (h.set rn (.cells [])) ∧ Den F φ' w (.slice a 0 0) (.hs true k rn 0 0) := by
  have hp : ∀ b', (Pl.free).blk = some b' → w.heap.size ≤ b' := fun b' h => by cases h
  have he := Ext.fill (φ := φ) (w := w) (w' := w) .free hrn (Nat.le_refl _) (fun _ _ => rfl) hp
  have hinv := hi.fill (w' := w) .free (.cells []) hrn (Nat.le_refl _) (fun _ _ => rfl) hp rfl
  have hat : (φ.set rn .free)[rn]? = some .free := List.getElem?_set_self (get_lt hrn)
  exact ⟨_, he, hinv, .hsN ⟨_, hat, by simp⟩ fun b' hb' => by rw [hat] at hb'; cases hb'⟩

/-- An append that makes a new array, which is an object's. -/
theorem growH {h : List Ho} (hi : Inv F φ w h) {rn : Nat} (hrn : φ[rn]? = some .yet) {st xt ty e : TypeId} {k b : Nat} {z : Value} (hu : P.underlying st = some (.slice e)) (hk : szT P e = some k) (hb : byT P e = some b) (hz : zeroT P e = some z) (h0 : 0 < k) (hzs : z.cells.size = k)
    {base : Option Addr} {n cap m : Nat} {rx : Value} {cs xs : List V} {olds news : List Value} (hol : Cells F φ w olds cs) (hcl : cs.length = n * k) (hfo : ∀ w' : World, w'.heap = w.heap → (Builtin.firstCells k n (.slice base n cap)).run P w' = .ok olds.toArray w')
    (hx : ∃ d, P.underlying xt = some d ∧ ∀ q, d ≠ .int q) (hl : ∀ w', (Builtin.lenOf rx).run P w' = .ok m w') (hxl : xs.length = m * k) (hnl : Cells F φ w news xs) (hf : ∀ w' : World, w'.heap = w.heap → (Builtin.firstCells k m rx).run P w' = .ok news.toArray w')
    (hg : cap < n + m) (hbd : (n + m) * b ≤ appBound) (hbd2 : n + m ≤ appBound) :
    ∃ u w', (Builtin.append_ #[st, xt] ty #[.slice base n cap, rx]).run P w = .ok u w' ∧ ∃ φ', Ext φ w φ' w' ∧ Inv F φ' w' (h.set rn (.cells (cs ++ xs))) ∧ Den F φ' w' u (.hs true k rn 0 (n + m)) := by
  obtain ⟨dx, hx, hxi⟩ := hx
  simp only [appBound] at hbd hbd2
  have hrun := app_grow (ty := ty) hu hx hxi hk hb hz hl hf hfo hg (by omega) (by omega)
  have hge : n + m ≤ grownCap w (n + m) cap e := grownCap_ge w _ _ _
  have hGm : grownCap w (n + m) cap e ≤ 9223372036854775807 := grownCap_le_maxLen w _ cap e (by unfold maxLen; omega)
  generalize hG : grownCap w (n + m) cap e = G at hrun hge hGm
  have hol1 := hol.1.length
  have hnl1 := hnl.1.length
  obtain ⟨a1, a2⟩ := drew_more (w := w) (.cells (olds.toArray ++ news.toArray ++ Builtin.zeroCells z.cells (G - (n + m))) e)
  refine ⟨_, _, hrun, vec_new hi hrn a1 a2 ⟨rfl, rfl, rfl⟩ (heap_alloc_new w.drew _) ?_ ⟨hge, hGm⟩ ?_ ?_⟩
  · simp only [Array.size_append, List.size_toArray, size_zeroCells, hzs, hol1, hcl, hnl1, hxl, ← Nat.add_mul]
    congr 1; omega
  · simp only [Array.size_append, List.size_toArray, List.length_append]; omega
  · have e1 : (olds.toArray ++ news.toArray ++ Builtin.zeroCells z.cells (G - (n + m))).toList.take (cs ++ xs).length = olds ++ news := by
      simp only [Array.toList_append]
      rw [List.take_append_of_le_length (by simp; omega)]
      rw [List.take_of_length_le (by simp; omega)]
    rw [e1]
    exact hol.append hnl

/-- An append that fits into an object's block. -/
theorem fitH {h : List Ho} (hi : Inv F φ w h) {rn : Nat} (hrn : φ[rn]? = some .yet) {st xt ty e : TypeId} {k : Nat} (hu : P.underlying st = some (.slice e)) (hk : szT P e = some k) (h0 : 0 < k)
    {g n cap z m o : Nat} {rx : Value} {cs xs : List V} {news : List Value} (hp : φ[o]? = some (.obj g z)) {cur : Array Value} {T : TypeId} (hg : w.heap[g]? = some (.cells cur T (0, 0))) (hz : cur.size = z) (hcz : cap * k ≤ z) (hcs : Cells F φ w (cur.toList.take cs.length) cs)
    (hle : n * k ≤ cs.length) (hclz : cs.length ≤ z) (hx : ∃ d, P.underlying xt = some d ∧ ∀ q, d ≠ .int q) (hl : ∀ w', (Builtin.lenOf rx).run P w' = .ok m w') (hxl : xs.length = m * k) (hnl : Cells F φ w news xs)
    (hf : ∀ w' : World, w'.heap = w.heap → (Builtin.firstCells k m rx).run P w' = .ok news.toArray w') (hroom : n + m ≤ cap) (hcm : cap ≤ 9223372036854775807) :
    ∃ u w', (Builtin.append_ #[st, xt] ty #[.slice (some ⟨g, 0, none⟩) n cap, rx]).run P w = .ok u w' ∧ ∃ φ', Ext φ w φ' w' ∧ Inv F φ' w' ((h.set o .dead).set rn (.cells (cs.take (n * k) ++ xs))) ∧ Den F φ' w' u (.hs true k rn 0 (n + m)) := by
  obtain ⟨dx, hx, hxi⟩ := hx
  have hnl1 := hnl.1.length
  have hlk : (n + m) * k ≤ cap * k := Nat.mul_le_mul_right k hroom
  rw [Nat.add_mul] at hlk
  have hrun := app_fit (ty := ty) hu hx hxi hk hl hf hg (n := n) (cap := cap) (by simp; omega) (by simpa using hnl.2) hroom
  simp only [List.toList_toArray] at hrun
  generalize hW : w.setRow g (cur.toList.take (n * k) ++ news ++ cur.toList.drop (n * k + news.length)).toArray = w' at hrun
  have hsize : w'.heap.size = w.heap.size := by rw [← hW]; exact size_setRow w g _
  have hio : Still w w' := by rw [← hW]; exact ⟨rfl, rfl, rfl⟩
  have hoth : ∀ b, b ≠ g → w'.heap[b]? = w.heap[b]? := fun b hb => by rw [← hW]; exact setRow_other w g b _ hb
  have hblk : w'.heap[g]? = some (.cells (cur.toList.take (n * k) ++ news ++ cur.toList.drop (n * k + news.length)).toArray T (0, 0)) := by rw [← hW]; exact setRow_heap w g cur _ T _ hg
  have hap : ∀ (j : Nat) (q : Pl), φ[j]? = some q → q.blk = some g → j = o := fun j q hq hqb => hi.apart j o q _ g hq hp hqb rfl
  have he := Ext.objOn hp hrn hap hsize hoth hio
  have htl : (cur.toList.take (n * k) ++ news ++ cur.toList.drop (n * k + news.length)).length = cur.size := by
    rw [splice_len _ _ _ (by simp; omega)]; simp
  have htk : (cs.take (n * k) ++ xs).length = n * k + m * k := by simp [hxl]; omega
  refine ⟨_, _, hrun, _, he, hi.objOn hp hrn hsize hoth ⟨_, ⟨T, hblk⟩, ?_, ?_, fun j v hv => ?_⟩ hio, ?_⟩
  · simp only [List.size_toArray, htl, hz]
  · simp only [List.size_toArray, htl, htk]; omega
  · have hall : Cells F φ w ((cur.toList.take cs.length).take (n * k) ++ news) (cs.take (n * k) ++ xs) := (hcs.take _).append hnl
    obtain ⟨u, hu'⟩ := ofLtL (xs := (cur.toList.take cs.length).take (n * k) ++ news) (i := j) (by rw [hall.1.length]; exact get_lt hv)
    refine ⟨u, ?_, hall.2 u (List.mem_of_getElem? hu'), (hall.1.get j u v hu' hv).ext he⟩
    have e1 : (cur.toList.take cs.length).take (n * k) = cur.toList.take (n * k) := by rw [List.take_take, Nat.min_eq_left hle]
    rw [e1] at hu'
    simp only [List.getElem?_toArray]
    rw [List.getElem?_append_left (get_lt hu')]; exact hu'
  · have hlast : ((φ.set o .dead).set rn (Pl.obj g z))[rn]? = some (.obj g z) := List.getElem?_set_self (by simpa using get_lt hrn)
    refine .hs ⟨_, hlast, by simp⟩ (fun b' hb' => ?_) ⟨hroom, hcm⟩ (fun _ hf => by rw [hlast] at hf; cases hf)
    rw [hlast] at hb'; cases hb'
    exact ⟨rfl, fun _ => by omega⟩

theorem appendH_gd {h h' : List Ho} (hi : Inv F φ w h) {rn : Nat} (hrn : φ[rn]? = some .yet) {st xt ty : TypeId} {s x v : V} {r rx : Value} (ha : appendH P h rn st xt s x = some (v, h')) (hr : Den F φ w r s) (hrx : Den F φ w rx x) :
    ∃ u w', (Builtin.append_ #[st, xt] ty #[r, rx]).run P w = .ok u w' ∧ ∃ φ', Ext φ w φ' w' ∧ Inv F φ' w' h' ∧ Den F φ' w' u v := by
  unfold appendH at ha
  split at ha
  case h_2 => cases ha
  rename_i e hu
  split at ha
  case h_2 => cases ha
  rename_i k b z hk hb hz
  split at ha
  case isFalse => cases ha
  rename_i hcond
  obtain ⟨hzs, h0⟩ := hcond
  split at ha
  case h_2 => cases ha
  rename_i m xs hsrc
  obtain ⟨hx, hl, hxl, news, hnc, hf⟩ := srcH_run hi h0 hsrc hrx
  have hnl1 := hnc.1.length
  have hf1 : ∀ w' : World, w'.heap = w.heap → (Builtin.firstCells k m rx).run P w' = .ok news.toArray w' := fun w' hw => by
    have := hf m (Nat.le_refl _) w' hw
    rwa [List.take_of_length_le (by omega)] at this
  have fromNil : ∀ a : Option Addr, m * b ≤ appBound ∧ m ≤ appBound → ∃ u w', (Builtin.append_ #[st, xt] ty #[.slice a 0 0, rx]).run P w = .ok u w' ∧ ∃ φ', Ext φ w φ' w' ∧ Inv F φ' w' (h.set rn (.cells xs)) ∧ Den F φ' w' u (.hs true k rn 0 m) := fun a hbd => by
    by_cases hm : m = 0
    · subst hm
      obtain ⟨dx, hx, hxi⟩ := hx
      have hx0 : xs = [] := List.eq_nil_of_length_eq_zero (by simpa using hxl)
      subst hx0
      have hn0 : news = [] := List.eq_nil_of_length_eq_zero (by simpa using hnl1)
      subst hn0
      have hz' : (dx matches TypeDesc.int _) = false := by cases dx <;> first | rfl | exact absurd rfl (hxi _)
      have hfw := hf1 w rfl
      refine ⟨.slice a 0 0, w, ?_, den_nilH hi hrn a⟩
      simp only [Builtin.append_, List.getElem?_toArray, List.getElem?_cons_zero, List.getElem?_cons_succ, Sem.run_bind, run_underlying hu, Result.andThen_ok, sz_run hk, run_underlying hx, Sem.run_pure]
      cases a with
      | none => simp only [hz', hl, Bool.false_eq_true, if_false, Sem.run_bind, Result.andThen_ok, Sem.run_ite, hfw, List.length_nil, Nat.add_zero, Nat.le_refl, if_true, Sem.run_pure, Bool.not_false]
      | some ad => simp only [hz', hl, Bool.false_eq_true, if_false, Sem.run_bind, Result.andThen_ok, Sem.run_ite, hfw, List.length_nil, Nat.add_zero, Nat.le_refl, if_true, Sem.run_pure, Bool.not_false, storeCells]
    · have := growH (ty := ty) hi hrn hu hk hb hz h0 hzs (base := a) (n := 0) (cap := 0) (cs := []) (olds := []) Cells.nil (by simp) (fun w' _ => by cases a <;> simp [Builtin.firstCells, loadCells, loadCellsFrom]) hx hl hxl hnc hf1 (by omega) (by simpa using hbd.1) (by simpa using hbd.2)
      simpa using this
  split at ha
  · rename_i k' o n
    split at ha
    case h_2 => cases ha
    rename_i cs hcs
    split at ha
    case isFalse => cases ha
    rename_i hc
    obtain ⟨rfl, hle, hbd, hbd2⟩ := hc
    cases ha
    have hkill := hi.kill o
    have hext := Ext.kill φ w o
    have hne : o ≠ rn := fun e => by
      subst e
      have := hi.ok o _ _ hrn hcs
      exact this
    have hrn' : (φ.set o .dead)[rn]? = some .yet := by rw [List.getElem?_set_ne hne]; exact hrn
    obtain ⟨ho, hcase⟩ := hsInv hr
    rcases obj_cells hi hcs with ⟨rfl, hfree⟩ | ⟨g, z2, cur, T, hp, hrow, hz2, hlen, hce⟩
    · have hn0 : n = 0 := by
        have : n * k' = 0 := by simp at hle; omega
        rcases Nat.mul_eq_zero.1 this with h | h
        · exact h
        · omega
      subst hn0
      have hgrow : ∀ (a : Option Addr) (cap : Nat), r = .slice a 0 cap → cap < 0 + m → ∃ u w', (Builtin.append_ #[st, xt] ty #[r, rx]).run P w = .ok u w' ∧ ∃ φ', Ext φ w φ' w' ∧ Inv F φ' w' ((h.set o .dead).set rn (.cells (([] : List V).take (0 * k') ++ xs))) ∧ Den F φ' w' u (.hs true k' rn 0 (0 + m)) := fun a cap e hlt => by
        subst e
        obtain ⟨u, w', h1, φ', h2, h3, h4⟩ := growH (ty := ty) hkill hrn' hu hk hb hz h0 hzs (base := a) (n := 0) (cap := cap) (cs := []) (olds := []) Cells.nil (by simp) (fun w' _ => by cases a <;> simp [Builtin.firstCells, loadCells, loadCellsFrom]) hx hl hxl (hnc.ext hext) hf1 hlt hbd hbd2
        exact ⟨u, w', h1, φ', hext.trans hi h2, by simpa using h3, h4⟩
      rcases hcase with ⟨b1, cap, rfl, hb1, hcap, _, hnf⟩ | ⟨_, a, cap, rfl, ha', _, hg', _⟩
      · exact absurd hfree (hnf rfl)
      · have hcap0 := (hg' rfl).1
        subst hcap0
        by_cases hm : m = 0
        · subst hm
          obtain ⟨dx, hx, hxi⟩ := hx
          have hx0 : xs = [] := List.eq_nil_of_length_eq_zero (by simpa using hxl)
          subst hx0
          have hn0 : news = [] := List.eq_nil_of_length_eq_zero (by simpa using hnl1)
          subst hn0
          have hz' : (dx matches TypeDesc.int _) = false := by cases dx <;> first | rfl | exact absurd rfl (hxi _)
          have hfw := hf1 w rfl
          obtain ⟨φ', h2, h3, h4⟩ := den_nilH (k := k') hkill hrn' a
          refine ⟨.slice a 0 0, w, ?_, φ', hext.trans hi h2, by simpa using h3, h4⟩
          simp only [Builtin.append_, List.getElem?_toArray, List.getElem?_cons_zero, List.getElem?_cons_succ, Sem.run_bind, run_underlying hu, Result.andThen_ok, sz_run hk, run_underlying hx, Sem.run_pure]
          cases a with
          | none => simp only [hz', hl, Bool.false_eq_true, if_false, Sem.run_bind, Result.andThen_ok, Sem.run_ite, hfw, List.length_nil, Nat.add_zero, Nat.le_refl, if_true, Sem.run_pure, Bool.not_false]
          | some ad => simp only [hz', hl, Bool.false_eq_true, if_false, Sem.run_bind, Result.andThen_ok, Sem.run_ite, hfw, List.length_nil, Nat.add_zero, Nat.le_refl, if_true, Sem.run_pure, Bool.not_false, storeCells]
        · exact hgrow a 0 rfl (by omega)
    · rcases hcase with ⟨b1, cap, rfl, hb1, hcap, hcm, _⟩ | ⟨_, a, cap, rfl, ha', _, hg', _⟩
      · obtain ⟨rfl, hcz⟩ := hb1 g hp
        have hcz := hcz rfl
        by_cases hroom : n + m ≤ cap
        · exact fitH hi hrn hu hk h0 hp hrow hz2 (by omega) hce hle hlen hx hl hxl hnc hf1 hroom hcm
        · have hol := (hce.take (n * k')).ext hext
          obtain ⟨u, w', h1, φ', h2, h3, h4⟩ := growH (ty := ty) hkill hrn' hu hk hb hz h0 hzs (base := some ⟨g, 0, none⟩) (n := n) (cap := cap) hol (by simp; omega) (fun w' hw => by
            refine run_firstCells_some (P := P) w' k' n ⟨g, 0, none⟩ n cap _ (by simp; omega) (fun j v hj => ?_)
            rw [List.getElem?_take] at hj
            split at hj
            · rw [List.getElem?_take] at hj
              split at hj
              · rw [add_addr]
                exact (cell_of w' _ _ _).2 ⟨cur, T, _, by rw [hw]; exact hrow, by simpa using hj⟩
              · cases hj
            · cases hj) hx hl hxl (hnc.ext hext) hf1 (by omega) hbd hbd2
          exact ⟨u, w', h1, φ', hext.trans hi h2, h3, h4⟩
      · exact absurd hp ((hg' rfl).2 g)
  · split at ha
    case isFalse => cases ha
    rename_i hc
    cases ha
    obtain ⟨rfl, _⟩ := hr.sc
    exact fromNil none hc
  · split at ha
    case isFalse => cases ha
    rename_i hc
    obtain ⟨rfl, hc⟩ := hc
    cases ha
    cases hr with
    | full hd hn =>
      simp at hn; subst hn
      exact fromNil _ hc
  · cases ha
end
end Go.Proofs.YtonllhjmoenckaaDoor
