/- The pure step of an operation is what the model's operation does: copies, literals and made slices that are objects, maps. No program stands here. -/
import Derived.Test.YtonllhjmoenckaaDoorVsH2
namespace Go.Proofs.YtonllhjmoenckaaDoor
open Go Go.RowKit Go.MapKept
set_option linter.unusedVariables false
set_option linter.unusedSimpArgs false
variable {F : Fr}

section
variable {P : Program} {F : Fr} {φ : List Pl} {w : World}

/-- Cells are written into an own object. -/
theorem splice_obj {h : List Ho} (hi : Inv F φ w h) {o b z off : Nat} {cs xs : List V} {arr : Array Value} {T : TypeId} {vals : List Value} (hcs : h[o]? = some (.cells cs)) (hp : φ[o]? = some (.obj b z)) (hrow : w.heap[b]? = some (.cells arr T (0, 0))) (hz : arr.size = z)
    (hc : Cells F φ w vals xs) (hle : off + xs.length ≤ cs.length) :
    ∃ w', (storeCells ⟨b, off, none⟩ vals).run P w = .ok () w' ∧ Ext φ w φ w' ∧ Inv F φ w' (h.set o (.cells (cs.take off ++ xs ++ cs.drop (off + xs.length)))) := by
  have hok := hi.ok o _ _ hp hcs
  obtain ⟨arr', ⟨T', hrow'⟩, hz', hlen, hd⟩ := hok
  rw [hrow] at hrow'
  cases hrow'
  have hn := hc.1.length
  have hrun := run_storeCells_at (P := P) b off T vals 0 arr w hrow (by omega) hc.2
  simp only [Nat.add_zero] at hrun
  have hsize := size_setRow w b (arr.toList.take off ++ vals ++ arr.toList.drop (off + vals.length)).toArray
  have hoth : ∀ k, k ≠ b → (w.setRow b (arr.toList.take off ++ vals ++ arr.toList.drop (off + vals.length)).toArray).heap[k]? = w.heap[k]? := fun k hk => setRow_other w b k _ hk
  have hap : ∀ (j : Nat) (q : Pl), φ[j]? = some q → q.blk = some b → j = o := fun j q hq hqb => hi.apart j o q _ b hq hp hqb rfl
  have hext := Ext.atObj hp hap hsize hoth
  refine ⟨_, hrun, hext, hi.atObj hp hsize hoth ⟨_, ⟨T, setRow_heap w b arr _ T _ hrow⟩, ?_, ?_, fun j x hx => ?_⟩⟩
  · rw [← hz]; simp only [List.size_toArray]
    rw [splice_len _ _ _ (by simp; omega)]; simp
  · rw [splice_len _ _ _ (by omega)]
    simp only [List.size_toArray]
    rw [splice_len _ _ _ (by simp; omega)]
    simpa using hlen
  · rw [splice_get _ _ _ (by omega)] at hx
    simp only [List.getElem?_toArray]
    rw [splice_get _ _ _ (by simp; omega)]
    by_cases g1 : j < off
    · rw [if_pos g1] at hx ⊢
      obtain ⟨u, a1, a2, a3⟩ := hd j x hx
      exact ⟨u, by simpa using a1, a2, a3.ext hext⟩
    · rw [if_neg g1] at hx ⊢
      by_cases g2 : j < off + xs.length
      · rw [if_pos g2] at hx
        rw [if_pos (by omega)]
        obtain ⟨u, hu⟩ := ofLtL (xs := vals) (i := j - off) (by omega)
        exact ⟨u, hu, hc.2 u (List.mem_of_getElem? hu), (hc.1.get _ u x hu hx).ext hext⟩
      · rw [if_neg g2] at hx
        rw [if_neg (by omega)]
        obtain ⟨u, a1, a2, a3⟩ := hd j x hx
        exact ⟨u, by simpa using a1, a2, a3.ext hext⟩

theorem set_same {h : List Ho} {o : Nat} {x : Ho} (hx : h[o]? = some x) : h.set o x = h := by
  apply List.ext_getElem?; intro i
  rw [List.getElem?_set]
  split
  · rename_i e; subst e; rw [hx]; split
    · rfl
    · rename_i hl; exact absurd (get_lt hx) hl
  · rfl

theorem copyV_gd {h h' : List Ho} (hi : Inv F φ w h) {dt xt ty : TypeId} {d x v : V} {r rx : Value} (ha : copyV P h dt xt d x = some (v, h')) (hr : Den F φ w r d) (hrx : Den F φ w rx x) :
    ∃ u w', (Builtin.copy_ #[dt, xt] ty #[r, rx]).run P w = .ok u w' ∧ ∃ φ', Ext φ w φ' w' ∧ Inv F φ' w' h' ∧ Den F φ' w' u v := by
  unfold copyV at ha
  split at ha
  case h_2 => cases ha
  rename_i e hu
  split at ha
  case h_2 => cases ha
  rename_i k hk
  split at ha
  case h_2 => cases ha
  rename_i m xs g k' o off n hsrc
  split at ha
  case h_2 => cases ha
  rename_i cs hcs
  split at ha
  case isFalse => cases ha
  rename_i hc
  obtain ⟨rfl, h0, hle⟩ := hc
  cases ha
  obtain ⟨hx, hl, hxl, news, hnc, hf⟩ := srcH_run hi h0 hsrc hrx
  have hnl := hnc.1.length
  have hmin : Nat.min m n = min n m := Nat.min_comm m n
  have hmk : min n m * k' ≤ m * k' := Nat.mul_le_mul_right k' (Nat.min_le_right n m)
  have hnk : min n m * k' ≤ n * k' := Nat.mul_le_mul_right k' (Nat.min_le_left n m)
  have hfm := hf (min n m) (Nat.min_le_right n m) w rfl
  have hxt : (xs.take (min n m * k')).length = min n m * k' := by simp; omega
  obtain ⟨ho, hcase⟩ := hsInv hr
  have zero : ∀ (a : Option Addr) (cap : Nat), r = .slice a n cap → n = 0 → ∃ u w', (Builtin.copy_ #[dt, xt] ty #[r, rx]).run P w = .ok u w' ∧ ∃ φ', Ext φ w φ' w' ∧ Inv F φ' w' (h.set o (.cells (cs.take off ++ xs.take (min n m * k') ++ cs.drop (off + min n m * k')))) ∧ Den F φ' w' u (.sc (.int .i64 (min n m : Nat))) := fun a cap e hn => by
    subst e hn
    have hs : h.set o (.cells (cs.take off ++ xs.take (min 0 m * k') ++ cs.drop (off + min 0 m * k'))) = h := by
      simp only [Nat.zero_min, Nat.zero_mul, List.take_zero, List.append_nil, Nat.add_zero, List.take_append_drop]
      exact set_same hcs
    rw [hs]
    refine ⟨.int .i64 (min 0 m : Nat), w, ?_, φ, .refl φ w, hi, den_sc rfl⟩
    cases a with
    | none => simp only [Builtin.copy_, List.getElem?_toArray, List.getElem?_cons_zero, List.getElem?_cons_succ, Sem.run_bind, run_underlying hu, Result.andThen_ok, hl, sz_run hk, hmin, hfm, Sem.run_pure, goInt]
    | some a =>
      have e0 : news.take (min 0 m * k') = [] := by simp
      rw [e0] at hfm
      simp only [Builtin.copy_, List.getElem?_toArray, List.getElem?_cons_zero, List.getElem?_cons_succ, Sem.run_bind, run_underlying hu, Result.andThen_ok, hl, sz_run hk, hmin, hfm, Sem.run_pure, goInt, storeCells]
  rcases hcase with ⟨b, cap, rfl, hb, hcap, _⟩ | ⟨rfl, a, cap, rfl, ha, _⟩
  · rcases obj_cells hi hcs with ⟨rfl, hfree⟩ | ⟨b', z, arr, T, hp, hrow, hz, hlen, hce⟩
    · have hn0 : n = 0 := by
        have : n * k' = 0 := by simp at hle; omega
        rcases Nat.mul_eq_zero.1 this with h | h
        · exact h
        · omega
      exact zero _ _ rfl hn0
    · have := (hb b' hp).1
      subst this
      obtain ⟨w', h1, h2, h3⟩ := splice_obj (P := P) hi hcs hp hrow hz (hnc.take (min n m * k')) (off := off) (by rw [hxt]; omega)
      rw [hxt] at h3
      refine ⟨.int .i64 (min n m : Nat), w', ?_, φ, h2, h3, den_sc rfl⟩
      simp only [Builtin.copy_, List.getElem?_toArray, List.getElem?_cons_zero, List.getElem?_cons_succ, Sem.run_bind, run_underlying hu, Result.andThen_ok, hl, sz_run hk, hmin, hfm, Sem.run_pure, goInt, List.toList_toArray, h1]
  · exact zero _ _ rfl rfl

/-- Zero cells. -/
theorem zeros_cells {k len : Nat} {z : Value} (h0 : 0 < k) (hzs : z.cells.size = k) (hf : z.cells.all flat = true) :
    Cells F φ w ((Array.range (len * k)).map (z.cells[· % z.cells.size]!)).toList (zeros len (z.cells.toList.map V.sc)).flatten ∧ ∀ x ∈ ((Array.range (len * k)).map (z.cells[· % z.cells.size]!)).toList, flat x = true := by
  have hf' : ∀ x ∈ z.cells.toList, flat x = true := fun x hx => Array.all_eq_true_iff_forall_mem.1 hf x (by simpa using hx)
  have zget : ∀ m, m < len * k → ((Array.range (len * k)).map (z.cells[· % z.cells.size]!))[m]? = some (z.cells[m % k]'(by rw [hzs]; exact Nat.mod_lt _ h0)) := fun m hm => by
    have hmk : m % k < z.cells.size := by rw [hzs]; exact Nat.mod_lt _ h0
    simp only [Array.getElem?_map, Array.getElem?_range, hm, if_true, Option.map_some, hzs]
    rw [getElem!_pos z.cells (m % k) hmk]
  have hall : ∀ x ∈ ((Array.range (len * k)).map (z.cells[· % z.cells.size]!)).toList, flat x = true := fun x hx => by
    obtain ⟨m, hm⟩ := List.mem_iff_getElem?.1 hx
    rw [Array.getElem?_toList] at hm
    have hlt := getLt hm
    rw [zget m (by simpa using hlt)] at hm
    cases hm
    exact hf' _ (by simp)
  have hk : ∀ (i : Nat) (e : List V), (zeros len (z.cells.toList.map V.sc))[i]? = some e → e.length = k := fun i e he => by
    unfold zeros at he
    rw [List.getElem?_replicate] at he
    split at he
    · cases he; simpa using hzs
    · cases he
  refine ⟨⟨.of_get (by rw [flat_len hk]; simp [zeros]) fun q r v hr hv => ?_, fun x hx => flat_one (hall x hx)⟩, hall⟩
  have hq : q / k * k + q % k = q := by rw [Nat.mul_comm]; exact Nat.div_add_mod q k
  have hm := Nat.mod_lt q h0
  rw [← hq, flat_get hk _ _ hm] at hv
  obtain ⟨e, he, hv⟩ := Option.bind_eq_some_iff.1 hv
  unfold zeros at he
  rw [List.getElem?_replicate] at he
  split at he
  · rename_i hlt
    cases he
    rw [List.getElem?_map] at hv
    obtain ⟨y, hy, rfl⟩ := Option.map_eq_some_iff.1 hv
    have hql : q < len * k := by
      rw [← hq]
      have : (q / k + 1) * k ≤ len * k := Nat.mul_le_mul_right k hlt
      rw [Nat.add_mul] at this; omega
    rw [Array.getElem?_toList, zget q hql] at hr
    rw [Array.getElem?_toList] at hy
    obtain ⟨hh, he⟩ := Array.getElem?_eq_some_iff.1 hy
    cases hr
    rw [he]
    exact den_sc (hf' y (by rw [← he]; simp))
  · cases he

theorem buildSliceH_gd {h : List Ho} (hi : Inv F φ w h) {rn : Nat} (hrn : φ[rn]? = some .yet) {t : TypeId} {len : Nat} {ps : List (Nat × V)} {rps : Array (Nat × Value)} {v : V} {ob : Ho} (hb : buildSliceH P rn t len ps = some (v, ob))
    (hix : rps.toList.map (·.1) = ps.map (·.1)) (hd : DenL F φ w (rps.toList.map (·.2)) (ps.map (·.2))) :
    ∃ u w', (Instr.buildSlice t len rps).run P w = .ok u w' ∧ ∃ φ', Ext φ w φ' w' ∧ Inv F φ' w' (h.set rn ob) ∧ Den F φ' w' u v := by
  unfold buildSliceH at hb
  split at hb
  case h_2 => cases hb
  rename_i e hu
  split at hb
  case h_2 => cases hb
  rename_i k z hk hz
  split at hb
  case isFalse => cases hb
  rename_i hcond
  obtain ⟨c0, c1, c2, c3⟩ := hcond
  obtain ⟨cs, hcs, heq⟩ := Option.map_eq_some_iff.1 hb
  cases heq
  obtain ⟨⟨z1, z2⟩, z3⟩ := zeros_cells (F := F) (φ := φ) (w := w) (len := len) c0 c2 c3
  obtain ⟨res, g1, g2, g3⟩ := fillV_run hcs hix hd z1 z2
  have hrun := run_buildSlice0 (P := P) (w := w) hu hk hz c1 g1
  obtain ⟨a1, a2⟩ := more_alloc w (.cells res e)
  have hlen : ∀ (ps : List (Nat × V)) (cs out : List V), fillV (fun i => some (i * k, k)) cs ps = some out → out.length = cs.length := fun ps => by
    induction ps with
    | nil => intro cs out h; simp only [fillV] at h; cases h; rfl
    | cons p ps ih =>
      intro cs out h
      obtain ⟨i, v⟩ := p
      simp only [fillV] at h
      split at h
      · rename_i hc
        rw [ih _ _ h]
        obtain ⟨h1, h2, _⟩ := hc
        rw [← h1] at h2 ⊢
        exact splice_len _ _ _ h2
      · cases h
  have hcl : cs.length = len * k := by
    rw [hlen _ _ _ hcs, flat_len (k := k)]
    · simp [zeros]
    · intro i e he
      unfold zeros at he
      rw [List.getElem?_replicate] at he
      split at he
      · cases he; simpa using c2
      · cases he
  have hrl := g2.length
  rw [Array.length_toList] at hrl
  have hln : len * 1 ≤ len * k := Nat.mul_le_mul_left len c0
  refine ⟨_, _, hrun, vec_new hi hrn a1 a2 ⟨rfl, rfl, rfl⟩ (heap_alloc_new w _) (by rw [hrl, hcl]) ⟨Nat.le_refl _, by omega⟩ (by omega) ?_⟩
  rw [List.take_of_length_le (by simp; omega)]
  exact ⟨g2, g3⟩

theorem makeSliceH_gd {h : List Ho} (hi : Inv F φ w h) {rn : Nat} (hrn : φ[rn]? = some .yet) {t : TypeId} {kl kc : IntKind} {n m : Int} {v : V} {ob : Ho} (hm : makeSliceH P rn t (some n) (some m) = some (v, ob)) :
    ∃ u w', (Instr.makeSlice t (.int kl n) (.int kc m)).run P w = .ok u w' ∧ ∃ φ', Ext φ w φ' w' ∧ Inv F φ' w' (h.set rn ob) ∧ Den F φ' w' u v := by
  unfold makeSliceH at hm
  split at hm
  case h_2 => cases hm
  rename_i n' m' e e1 e2 hu
  cases e1; cases e2
  split at hm
  case h_2 => cases hm
  rename_i k b z hk hb hz
  split at hm
  case isFalse => cases hm
  rename_i hc
  obtain ⟨c0, c1, rfl, c3, c4, c5, c6⟩ := hc
  cases hm
  obtain ⟨n, rfl⟩ := Int.eq_ofNat_of_zero_le c1
  simp only [Int.toNat_natCast] at c3 c4 ⊢
  have hbs : buildSliceH P rn t n [] = some (.hs true k rn 0 n, .cells (zeros n (z.cells.toList.map V.sc)).flatten) := by
    unfold buildSliceH
    rw [hu]
    simp only [hk, hz]
    rw [if_pos ⟨c0, c3, c5, c6⟩]
    rfl
  obtain ⟨u, w', h1, h2⟩ := buildSliceH_gd (P := P) hi hrn (rps := #[]) hbs rfl .nil
  refine ⟨u, w', ?_, h2⟩
  rw [← h1]
  obtain ⟨i, hi1, hi2, hi3, hi4⟩ : ∃ i, P.info? e = some i ∧ i.size = k ∧ i.bytes = b ∧ i.zero = some z := by
    unfold szT at hk; unfold byT at hb; unfold zeroT at hz
    cases hq : P.info? e with
    | none => simp [hq] at hk
    | some i => exact ⟨i, rfl, by simpa [hq] using hk, by simpa [hq] using hb, by simpa [hq] using hz⟩
  have hn : n * 1 ≤ n * k := Nat.mul_le_mul_left n c0
  have h3 := run_makeSlice (P := P) (w := w) t e i z hu hi1 hi4 kl kc (n : Int) (n : Int) c1 (Int.le_refl _) (by rw [hi2]; simpa using c3) (by rw [hi3]; omega) (by omega)
  have h4 := run_buildSlice0 (P := P) (w := w) (t := t) (e := e) (len := n) (parts := #[]) (k := k) (z := z) hu hk hz c3 (by simp [Instr.fill]; rfl)
  rw [h3, h4, hi2]
  simp only [Int.toNat_natCast, madeCells]

/-! ### Maps -/
theorem isKey_of {d : TypeDesc} {k : Value} (h : keyOk d k = true) : IsKey d k := by
  cases d <;> cases k <;> simp_all [keyOk, IsKey]
theorem keyEq_iff {d : TypeDesc} {a b : Value} (ha : keyOk d a = true) (hb : keyOk d b = true) : keyEq a b = true ↔ a = b := by
  cases d <;> cases a <;> cases b <;> simp_all [keyOk, keyEq, bytes_beq]

theorem mset_len (c : Nat) (k : Value) (v : V) : ∀ es : List ME, (mset c es k v).length = if (mget es k).isSome = true then es.length else es.length + 1
  | [] => rfl
  | e :: es => by
    unfold mset mget
    split
    · rfl
    · simp only [List.length_cons, mset_len c k v es]
      split <;> rfl

theorem find_map {d : TypeDesc} {key : Value} (hk : keyOk d key = true) : ∀ (l : List MapEntry) (es : List ME) (i : Nat), l.length = es.length →
    (∀ (j : Nat) (m : MapEntry) (e : ME), l[j]? = some m → es[j]? = some e → m.key = e.key) → keysOk d es = true →
    (mget es key = none ∧ Instr.findNow d key l i = some none ∧ (∀ c v, mset c es key v = es ++ [⟨c, key, v⟩]) ∧ mdel es key = es ∧ ∀ c z, ment c z es key = (z, c, es ++ [⟨c, key, z⟩])) ∨
    (∃ (j : Nat) (m : MapEntry) (e : ME), l[j]? = some m ∧ es[j]? = some e ∧ m.key = key ∧ e.key = key ∧ mget es key = some e.val ∧ Instr.findNow d key l i = some (some (i + j, m.val)) ∧ (∀ c v, mset c es key v = es.set j ⟨e.born, key, v⟩) ∧ mdel es key = es.eraseIdx j ∧ ∀ c z, ment c z es key = (e.val, e.born, es.set j ⟨e.born, key, e.val⟩))
  | [], [], i, _, _, _ => .inl ⟨rfl, rfl, fun _ _ => rfl, rfl, fun _ _ => rfl⟩
  | [], _ :: _, _, h, _, _ => by simp at h
  | _ :: _, [], _, h, _, _ => by simp at h
  | m :: l, e :: es, i, hl, hkeys, hok => by
    have hok' : keyOk d e.key = true ∧ keysOk d es = true := by simpa [keysOk] using hok
    have hme : m.key = e.key := hkeys 0 m e rfl rfl
    obtain ⟨r, hr, hiff⟩ := sameNow_of_keys (isKey_of hk) (b := m.key) (by rw [hme]; exact isKey_of hok'.1)
    have hke := keyEq_iff hk hok'.1
    by_cases heq : key = e.key
    · have h1 : keyEq key e.key = true := hke.2 heq
      have h2 : r = true := hiff.2 (by rw [hme]; exact heq)
      subst h2
      exact .inr ⟨0, m, e, rfl, rfl, by rw [hme, heq], heq.symm, by simp [mget, h1], by simp [Instr.findNow, hr], fun c v => by simp [mset, h1], by simp [mdel, h1], fun c z => by simp [ment, h1]⟩
    · have h1 : keyEq key e.key = false := by
        cases hh : keyEq key e.key with
        | false => rfl
        | true => exact absurd (hke.1 hh) heq
      have h2 : r = false := by
        cases r with
        | false => rfl
        | true => exact absurd (by rw [← hme]; exact hiff.1 rfl) heq
      subst h2
      rcases find_map hk l es (i + 1) (by simpa using hl) (fun j m e hm he => hkeys (j + 1) m e (by simpa using hm) (by simpa using he)) hok'.2 with ⟨a1, a2, a3, a4, a5⟩ | ⟨j, m', e', a1, a2, a3, a4, a5, a6, a7, a8, a9⟩
      · exact .inl ⟨by simp [mget, h1, a1], by simp [Instr.findNow, hr, a2], fun c v => by simp [mset, h1, a3], by simp [mdel, h1, a4], fun c z => by simp [ment, h1, a5]⟩
      · exact .inr ⟨j + 1, m', e', by simpa using a1, by simpa using a2, a3, a4, by simp [mget, h1, a5], by simp [Instr.findNow, hr, a6]; omega, fun c v => by simp [mset, h1, a7], by simp [mdel, h1, a8], fun c z => by simp [ment, h1, a9]⟩

/-- The block of a map. -/
theorem map_obj {h : List Ho} (hi : Inv F φ w h) {o : Nat} {g : GM} {r : Value} (hr : Den F φ w r (.mp o)) (ho : h[o]? = some (.map g)) :
    ∃ (b z : Nat) (ents : Array MapEntry), r = .map (some b) ∧ φ[o]? = some (.obj b z) ∧ w.heap[b]? = some (.map ents g.c) ∧ ents.size = g.es.length ∧
      ∀ (j : Nat) (m : MapEntry) (e : ME), ents[j]? = some m → g.es[j]? = some e → (m.key = e.key ∧ m.born = e.born) ∧ Den F φ w m.val e.val := by
  cases hr with
  | mp hlv hb =>
    obtain ⟨p, hp⟩ := ofLtL (xs := φ) (i := o) (by rw [hi.len]; exact get_lt ho)
    have hok := hi.ok o p _ hp ho
    cases p <;> simp only [ObOk] at hok
    obtain ⟨ents, clock, h1, ⟨rfl, h2⟩, h3⟩ := hok
    have := hb _ hp
    subst this
    exact ⟨_, _, ents, rfl, hp, h1, h2, h3⟩

theorem lookup_run_of {t kt et : TypeId} {kd : TypeDesc} {r s zv : Value} {ents : Array MapEntry} {a : Option (Nat × Value)} (hents : (r = .map none ∧ ents = #[]) ∨ ∃ b clock, r = .map (some b) ∧ w.heap[b]? = some (.map ents clock))
    (hu : P.underlying t = some (.map kt et)) (hkd : P.underlying kt = some kd) (hik : IsKey kd s) (hf : Instr.findNow kd s ents.toList 0 = some a) (hz : (zeroValue et).run P w = .ok zv w) (ok : Bool) :
    (Instr.lookup t r s ok).run P w = .ok (match a with
      | some (_, v) => if ok then .tuple #[v, .bool true] else v
      | none => if ok then .tuple #[zv, .bool false] else zv) w := by
  have hfk := run_findKey (P := P) (w := w) hkd hf
  rcases hents with ⟨rfl, rfl⟩ | ⟨b, clock, rfl, hblk⟩
  · cases a with
    | none => cases ok <;> simp [Instr.lookup, run_underlying hu, run_checkKey hkd hik, hfk, hz, Result.andThen]
    | some a => simp [Instr.findNow] at hf
  · cases a with
    | none => cases ok <;> simp [Instr.lookup, run_underlying hu, MapKept.run_getObj_map hblk, run_checkKey hkd hik, hfk, hz, Result.andThen]
    | some a => cases ok <;> simp [Instr.lookup, run_underlying hu, MapKept.run_getObj_map hblk, run_checkKey hkd hik, hfk, hz, Result.andThen]

theorem lookupV_run {h : List Ho} (hi : Inv F φ w h) {t : TypeId} {x k v : V} {ok : Bool} (hl : lookupV P h t x k ok = some v) {r s : Value} (hr : Den F φ w r x) (hs : Den F φ w s k) :
    ∃ u, (Instr.lookup t r s ok).run P w = .ok u w ∧ Den F φ w u v := by
  unfold lookupV at hl
  split at hl
  case h_2 => cases hl
  rename_i kt et key hu
  split at hl
  case h_2 => cases hl
  rename_i kd gm z hkd hmap hz
  split at hl
  case isFalse => cases hl
  rename_i hc
  obtain ⟨hko, hkso⟩ := hc
  obtain ⟨rfl, _⟩ := hs.sc
  obtain ⟨zv, hzt, hzc⟩ := Option.bind_eq_some_iff.1 hz
  have hzr := zeroT_run (P := P) (w := w) hzt
  have hzd : Den F φ w zv z := constV_den hzc
  have hik := isKey_of hko
  obtain ⟨ents, hents, hsz, hent⟩ : ∃ (ents : Array MapEntry), ((r = .map none ∧ ents = #[]) ∨ ∃ b clock, r = .map (some b) ∧ w.heap[b]? = some (.map ents clock)) ∧ ents.size = gm.es.length ∧
      ∀ (j : Nat) (m : MapEntry) (e : ME), ents[j]? = some m → gm.es[j]? = some e → m.key = e.key ∧ Den F φ w m.val e.val := by
    unfold mapOf at hmap
    split at hmap
    · rename_i o
      split at hmap
      · rename_i es' hes
        cases hmap
        obtain ⟨b, zz, ents, rfl, hp, hblk, hsz, hent⟩ := map_obj hi hr hes
        exact ⟨ents, .inr ⟨b, _, rfl, hblk⟩, hsz, fun j m e hm he => ⟨(hent j m e hm he).1.1, (hent j m e hm he).2⟩⟩
      · cases hmap
    · cases hmap
      obtain ⟨rfl, _⟩ := hr.sc
      exact ⟨#[], .inl ⟨rfl, rfl⟩, rfl, fun j m e hm => by simp at hm⟩
    · cases hmap
  have hfm := find_map hko ents.toList gm.es 0 (by simpa using hsz) (fun j m e hm he => (hent j m e (by simpa using hm) he).1) hkso
  unfold GM.get at hl
  rcases hfm with ⟨a1, a2, _⟩ | ⟨j, m, e, a1, a2, a3, a4, a5, a6, _⟩
  · rw [a1] at hl
    refine ⟨_, lookup_run_of hents hu hkd hik a2 hzr ok, ?_⟩
    cases ok with
    | false => cases hl; exact hzd
    | true =>
      cases hl
      refine .tup rfl fun i r v hr hv => ?_
      match i, hr, hv with
      | 0, hr, hv => simp at hr hv; subst hr hv; exact hzd
      | 1, hr, hv => simp at hr hv; subst hr hv; exact den_sc rfl
  · rw [a5] at hl
    have hdv := (hent j m e (by simpa using a1) a2).2
    refine ⟨_, lookup_run_of hents hu hkd hik a6 hzr ok, ?_⟩
    cases ok with
    | false => cases hl; exact hdv
    | true =>
      cases hl
      refine .tup rfl fun i r v hr hv => ?_
      match i, hr, hv with
      | 0, hr, hv => simp at hr hv; subst hr hv; exact hdv
      | 1, hr, hv => simp at hr hv; subst hr hv; exact den_sc rfl

/-- A map's block has changed. -/
theorem map_set {h : List Ho} (hi : Inv F φ w h) {o b z : Nat} {ents ents' : Array MapEntry} {clock : Nat} {g' : GM} (hp : φ[o]? = some (.obj b z)) (hblk : w.heap[b]? = some (.map ents clock)) (hsz : ents'.size = g'.es.length)
    (hent : ∀ (j : Nat) (m : MapEntry) (e : ME), ents'[j]? = some m → g'.es[j]? = some e → (m.key = e.key ∧ m.born = e.born) ∧ Den F φ w m.val e.val) :
    Ext φ w φ { w with heap := w.heap.setIfInBounds b (.map ents' g'.c) } ∧ Inv F φ { w with heap := w.heap.setIfInBounds b (.map ents' g'.c) } (h.set o (.map g')) := by
  obtain ⟨h1, h2⟩ := heap_set (o' := .map ents' g'.c) hblk
  have hap : ∀ (j : Nat) (q : Pl), φ[j]? = some q → q.blk = some b → j = o := fun j q hq hqb => hi.apart j o q _ b hq hp hqb rfl
  have hs : ({ w with heap := w.heap.setIfInBounds b (.map ents' g'.c) } : World).heap.size = w.heap.size := by simp
  have he := Ext.atObj hp hap hs h2
  exact ⟨he, hi.atObj hp hs h2 ⟨ents', g'.c, h1, ⟨rfl, hsz⟩, fun j m e hm he' => ⟨(hent j m e hm he').1, (hent j m e hm he').2.ext he⟩⟩⟩

/-- An operation at a map and a key. -/
theorem atMap_run {h h' : List Ho} (hi : Inv F φ w h) {t : TypeId} {x k v : V} {f : GM → Value → TypeId → Option (V × GM)} (hl : atMap P h t x k f = some (v, h')) {r s : Value} (hr : Den F φ w r x) (hs : Den F φ w s k) {α : Type} {run : Sem α} {C : α → Prop}
    (hrun : ∀ (kt et : TypeId) (kd : TypeDesc) (g g' : GM) (b z o : Nat) (ents : Array MapEntry), P.underlying t = some (.map kt et) → P.underlying kt = some kd → r = .map (some b) → w.heap[b]? = some (.map ents g.c) → keyOk kd s = true → keysOk kd g.es = true → ents.size = g.es.length → φ[o]? = some (.obj b z) →
      (∀ (j : Nat) (m : MapEntry) (e : ME), ents[j]? = some m → g.es[j]? = some e → (m.key = e.key ∧ m.born = e.born) ∧ Den F φ w m.val e.val) → f g s et = some (v, g') →
      ∃ (ents' : Array MapEntry) (u : α), run.run P w = .ok u { w with heap := w.heap.setIfInBounds b (.map ents' g'.c) } ∧ ents'.size = g'.es.length ∧ C u ∧
        ∀ (j : Nat) (m : MapEntry) (e : ME), ents'[j]? = some m → g'.es[j]? = some e → (m.key = e.key ∧ m.born = e.born) ∧ Den F φ w m.val e.val) :
    ∃ u w', run.run P w = .ok u w' ∧ C u ∧ Ext φ w φ w' ∧ Inv F φ w' h' := by
  unfold atMap at hl
  split at hl
  case h_2 => cases hl
  rename_i kt et o key hut
  split at hl
  case h_2 => cases hl
  rename_i kd g hkd hes
  split at hl
  case isFalse => cases hl
  rename_i hc
  obtain ⟨hko, hkso⟩ := hc
  obtain ⟨⟨v', g'⟩, hf, heq⟩ := Option.map_eq_some_iff.1 hl
  cases heq
  obtain ⟨rfl, _⟩ := hs.sc
  obtain ⟨b, z, ents, rfl, hp, hblk, hsz, hent⟩ := map_obj hi hr hes
  obtain ⟨ents', u, h1, h2, h3, h4⟩ := hrun kt et kd g g' b z o ents hut hkd rfl hblk hko hkso hsz hp hent hf
  obtain ⟨h5, h6⟩ := map_set hi hp hblk h2 h4
  exact ⟨u, _, h1, h3, h5, h6⟩

theorem mapUpdateV_run {h h' : List Ho} (hi : Inv F φ w h) {t : TypeId} {x k v y : V} (hl : mapUpdateV P h t x k v = some (y, h')) {r s u : Value} (hr : Den F φ w r x) (hs : Den F φ w s k) (hu : Den F φ w u v) :
    y = .undef ∧ ∃ w', (Instr.mapUpdate t r s u).run P w = .ok () w' ∧ Ext φ w φ w' ∧ Inv F φ w' h' := by
  have hy : y = .undef := by
    unfold mapUpdateV atMap at hl
    repeat' (split at hl)
    all_goals first | (cases hl; done) | (simp only [Option.map_some, Option.some.injEq, Prod.mk.injEq] at hl; exact hl.1.symm)
  refine ⟨hy, ?_⟩
  obtain ⟨q, w', h1, _, h2, h3⟩ := atMap_run (run := Instr.mapUpdate t r s u) (C := fun _ => True) hi hl hr hs (by
    intro kt et kd g g' b z o ents hut hkd hrb hblk hko hkso hsz hp hent hf
    subst hrb
    cases hf
    have hik := isKey_of hko
    rcases find_map hko ents.toList g.es 0 (by simpa using hsz) (fun j m e hm he => (hent j m e (by simpa using hm) he).1.1) hkso with ⟨a1, a2, a3, _⟩ | ⟨j, m, e, a1, a2, a3, a4, a5, a6, a7, _⟩
    · refine ⟨ents.push { key := s, val := u, born := g.c }, (), ?_, ?_, trivial, ?_⟩
      · have ec : (g.set s v).c = g.c + 1 := by simp [GM.set, a1]
        rw [ec]
        simp [Instr.mapUpdate, run_underlying hut, MapKept.run_getObj_map hblk, run_checkKey hkd hik, run_findKey hkd a2, run_setObj_map _ hblk, Result.andThen]
      · simp [GM.set, a3, hsz]
      · intro j m e hm he
        simp only [GM.set, a3] at he
        rw [Array.getElem?_push] at hm
        split at hm
        · rename_i hj
          cases hm
          rcases get_snoc he with ⟨hlt, _⟩ | ⟨_, rfl⟩
          · omega
          · exact ⟨⟨rfl, rfl⟩, hu⟩
        · have hlt := getLt hm
          rw [List.getElem?_append_left (by omega)] at he
          exact hent j m e hm he
    · have hj : ents[j]? = some m := by simpa using a1
      simp only [Nat.zero_add] at a6
      refine ⟨ents.modify j fun e => { e with key := s, val := u }, (), ?_, ?_, trivial, ?_⟩
      · have ec : (g.set s v).c = g.c := by simp [GM.set, a5]
        rw [ec]
        simp [Instr.mapUpdate, run_underlying hut, MapKept.run_getObj_map hblk, run_checkKey hkd hik, run_findKey hkd a6, hj, a3, run_keyThatStays hik, run_setObj_map _ hblk, Result.andThen]
      · simp [GM.set, a7, hsz]
      · intro i m' e' hm he
        simp only [GM.set, a7] at he
        rw [Array.getElem?_modify] at hm
        rcases get_set he with ⟨rfl, rfl, _⟩ | ⟨hne, he⟩
        · rw [if_pos rfl, hj] at hm
          cases hm
          have := (hent i m e hj a2).1.2
          exact ⟨⟨rfl, this⟩, hu⟩
        · rw [if_neg (fun e => hne e.symm)] at hm
          exact hent i m' e' hm he)
  exact ⟨w', h1, h2, h3⟩

theorem deleteV_run {h h' : List Ho} (hi : Inv F φ w h) {t t2 ty : TypeId} {x k y : V} (hl : deleteV P h t x k = some (y, h')) {r s : Value} (hr : Den F φ w r x) (hs : Den F φ w s k) :
    ∃ u w', (Builtin.delete_ #[t, t2] ty #[r, s]).run P w = .ok u w' ∧ ∃ φ', Ext φ w φ' w' ∧ Inv F φ' w' h' ∧ Den F φ' w' u y := by
  have hy : y = .undef := by
    unfold deleteV atMap at hl
    repeat' (split at hl)
    all_goals first | (cases hl; done) | (simp only [Option.map_some, Option.some.injEq, Prod.mk.injEq] at hl; exact hl.1.symm)
  subst hy
  obtain ⟨q, w', h1, rfl, h2, h3⟩ := atMap_run (run := Builtin.delete_ #[t, t2] ty #[r, s]) (C := fun q => q = undef) hi hl hr hs (by
    intro kt et kd g g' b z o ents hut hkd hrb hblk hko hkso hsz hp hent hf
    subst hrb
    cases hf
    have hik := isKey_of hko
    rcases find_map hko ents.toList g.es 0 (by simpa using hsz) (fun j m e hm he => (hent j m e (by simpa using hm) he).1.1) hkso with ⟨a1, a2, _, a3, _⟩ | ⟨j, m, e, a1, a2, a3, a4, a5, a6, _, a8, _⟩
    · refine ⟨ents, undef, ?_, ?_, rfl, ?_⟩
      · simp [GM.del, undef, Builtin.delete_, run_underlying hut, MapKept.run_getObj_map hblk, run_checkKey hkd hik, run_findKey hkd a2, run_setObj_map _ hblk, Result.andThen]
      · simpa [GM.del, a3] using hsz
      · intro j m e hm he
        simp only [GM.del, a3] at he
        exact hent j m e hm he
    · have hjl : j < ents.size := by have := get_lt a1; simpa using this
      have her : ents.eraseIdxIfInBounds j = ents.eraseIdx j hjl := by simp [Array.eraseIdxIfInBounds, hjl]
      simp only [Nat.zero_add] at a6
      refine ⟨ents.eraseIdxIfInBounds j, undef, ?_, ?_, rfl, ?_⟩
      · simp [GM.del, undef, Builtin.delete_, run_underlying hut, MapKept.run_getObj_map hblk, run_checkKey hkd hik, run_findKey hkd a6, run_setObj_map _ hblk, Result.andThen]
      · rw [her]; simp [GM.del, a8, hsz, List.length_eraseIdx, get_lt a2]
      · intro i m' e' hm he
        simp only [GM.del, a8] at he
        rw [her, ← Array.getElem?_toList, Array.toList_eraseIdx, List.getElem?_eraseIdx] at hm
        rw [List.getElem?_eraseIdx] at he
        split at hm
        · rename_i hlt; rw [if_pos hlt] at he; exact hent i m' e' (by simpa using hm) he
        · rename_i hlt; rw [if_neg hlt] at he; exact hent _ m' e' (by simpa using hm) he)
  exact ⟨_, w', h1, φ, h2, h3, den_undef⟩

theorem mapEntryV_run {h h' : List Ho} (hi : Inv F φ w h) {t : TypeId} {x k y : V} (hl : mapEntryV P h t x k = some (y, h')) {r s : Value} (hr : Den F φ w r x) (hs : Den F φ w s k) :
    ∃ u w', (Instr.mapEntry t r s).run P w = .ok u w' ∧ ∃ φ', Ext φ w φ' w' ∧ Inv F φ' w' h' ∧ Den F φ' w' u y := by
  obtain ⟨q, w', h1, hd, h2, h3⟩ := atMap_run (run := Instr.mapEntry t r s) (C := fun q => Den F φ w q y) hi hl hr hs (by
    intro kt et kd g g' b z o ents hut hkd hrb hblk hko hkso hsz hp hent hf
    subst hrb
    split at hf
    case h_2 => cases hf
    rename_i zz hz
    cases hf
    obtain ⟨zv, hzt, hzc⟩ := Option.bind_eq_some_iff.1 hz
    have hzr := zeroT_run (P := P) (w := w) hzt
    have hzd : Den F φ w zv zz := constV_den hzc
    have hik := isKey_of hko
    have tup2 : ∀ {a : Value} {va : V} {n : Nat}, Den F φ w a va → Den F φ w (.tuple #[a, .int .i64 n]) (.tup [va, .sc (.int .i64 n)]) := fun h => .tup rfl fun i r v hr hv => by
      match i, hr, hv with
      | 0, hr, hv => simp at hr hv; subst hr hv; exact h
      | 1, hr, hv => simp at hr hv; subst hr hv; exact den_sc rfl
    rcases find_map hko ents.toList g.es 0 (by simpa using hsz) (fun j m e hm he => (hent j m e (by simpa using hm) he).1.1) hkso with ⟨a1, a2, _, _, a3⟩ | ⟨j, m, e, a1, a2, a3, a4, a5, a6, _, _, a7⟩
    · refine ⟨ents.push { key := s, val := zv, born := g.c }, .tuple #[zv, .int .i64 g.c], ?_, ?_, ?_, ?_⟩
      · have ec : (g.ent zz s).2.2.c = g.c + 1 := by simp [GM.ent, a1]
        rw [ec]
        simp [Instr.mapEntry, run_underlying hut, MapKept.run_getObj_map hblk, run_checkKey hkd hik, run_findKey hkd a2, hzr, run_setObj_map _ hblk, Result.andThen, goInt]
      · simp [GM.ent, a3, hsz]
      · simp only [GM.ent, a3]; exact tup2 hzd
      · intro j m e hm he
        simp only [GM.ent, a3] at he
        rw [Array.getElem?_push] at hm
        split at hm
        · rename_i hj
          cases hm
          rcases get_snoc he with ⟨hlt, _⟩ | ⟨_, rfl⟩
          · omega
          · exact ⟨⟨rfl, rfl⟩, hzd⟩
        · have hlt := getLt hm
          rw [List.getElem?_append_left (by omega)] at he
          exact hent j m e hm he
    · have hj : ents[j]? = some m := by simpa using a1
      simp only [Nat.zero_add] at a6
      have hmb := (hent j m e hj a2).1.2
      refine ⟨ents.modify j fun e => { e with key := s }, .tuple #[m.val, .int .i64 m.born], ?_, ?_, ?_, ?_⟩
      · have ec : (g.ent zz s).2.2.c = g.c := by simp [GM.ent, a5]
        rw [ec]
        simp [Instr.mapEntry, run_underlying hut, MapKept.run_getObj_map hblk, run_checkKey hkd hik, run_findKey hkd a6, hj, a3, run_keyThatStays hik, run_setObj_map _ hblk, Result.andThen, goInt]
      · simp [GM.ent, a7, hsz]
      · simp only [GM.ent, a7]
        rw [← hmb]
        exact tup2 (hent j m e hj a2).2
      · intro i m' e' hm he
        simp only [GM.ent, a7] at he
        rw [Array.getElem?_modify] at hm
        rcases get_set he with ⟨rfl, rfl, _⟩ | ⟨hne, he⟩
        · rw [if_pos rfl, hj] at hm
          cases hm
          exact ⟨⟨rfl, hmb⟩, (hent i m e hj a2).2⟩
        · rw [if_neg (fun e => hne e.symm)] at hm
          exact hent i m' e' hm he)
  exact ⟨q, w', h1, φ, h2, h3, hd.ext h2⟩

theorem mstore_spec {ents : List MapEntry} : ∀ {es es' : List ME} {b : Nat} {v : V}, mstore es b v = some es' → ents.length = es.length → (∀ (j : Nat) (m : MapEntry) (e : ME), ents[j]? = some m → es[j]? = some e → m.born = e.born) →
    ∃ (j : Nat) (e : ME), es[j]? = some e ∧ e.born = b ∧ es' = es.set j ⟨e.born, e.key, v⟩ ∧ ents.findIdx? (fun e => (e.born : Int) == (b : Int)) = some j := by
  intro es
  induction es generalizing ents with
  | nil => intro es' b v h; simp [mstore] at h
  | cons e es ih =>
    intro es' b v h hl hb
    cases ents with
    | nil => simp at hl
    | cons m ents =>
      have hm := hb 0 m e rfl rfl
      simp only [mstore] at h
      split at h
      · rename_i heq
        cases h
        refine ⟨0, e, rfl, heq, rfl, ?_⟩
        simp [List.findIdx?_cons, hm, heq]
      · rename_i hne
        obtain ⟨es1, h1, rfl⟩ := Option.map_eq_some_iff.1 h
        obtain ⟨j, e', g1, g2, g3, g4⟩ := ih (ents := ents) h1 (by simpa using hl) fun j m e hm he => hb (j + 1) m e (by simpa using hm) (by simpa using he)
        refine ⟨j + 1, e', by simpa using g1, g2, by rw [g3]; rfl, ?_⟩
        have : ((m.born : Int) == (b : Int)) = false := by rw [hm]; simp; omega
        simp [List.findIdx?_cons, this, g4]

theorem entryStoreV_run {h h' : List Ho} (hi : Inv F φ w h) {t : TypeId} {x s v y : V} (hl : entryStoreV h x s v = some (y, h')) {r rs u : Value} (hr : Den F φ w r x) (hs : Den F φ w rs s) (hu : Den F φ w u v) :
    y = .undef ∧ ∃ w', (Instr.entryStore t r rs u).run P w = .ok () w' ∧ Ext φ w φ w' ∧ Inv F φ w' h' := by
  unfold entryStoreV at hl
  split at hl
  case h_2 => cases hl
  rename_i o k n
  split at hl
  case h_2 => cases hl
  rename_i g hes
  split at hl
  case isFalse => cases hl
  rename_i hn
  obtain ⟨g', hg', heq⟩ := Option.map_eq_some_iff.1 hl
  cases heq
  refine ⟨rfl, ?_⟩
  obtain ⟨es', hst, rfl⟩ := Option.map_eq_some_iff.1 hg'
  obtain ⟨rfl, _⟩ := hs.sc
  obtain ⟨n, rfl⟩ := Int.eq_ofNat_of_zero_le hn
  simp only [Int.toNat_natCast] at hst
  obtain ⟨b, z, ents, rfl, hp, hblk, hsz, hent⟩ := map_obj hi hr hes
  obtain ⟨j, e, g1, g2, g3, g4⟩ := mstore_spec (ents := ents.toList) hst (by simpa using hsz) fun j m e hm he => (hent j m e (by simpa using hm) he).1.2
  have hfi : ents.findIdx? (fun e => (e.born : Int) == (n : Int)) = some j := by rw [← g4]; cases ents; simp
  obtain ⟨h1, h2⟩ := map_set (ents' := ents.modify j fun e => { e with val := u }) (g' := ⟨g.c, es'⟩) hi hp hblk (by simp [g3, hsz]) (fun i m' e' hm he => by
    simp only [g3] at he
    rw [Array.getElem?_modify] at hm
    rcases get_set he with ⟨rfl, rfl, _⟩ | ⟨hne, he⟩
    · rw [if_pos rfl] at hm
      obtain ⟨m0, hm0, rfl⟩ := Option.map_eq_some_iff.1 hm
      obtain ⟨⟨q1, q2⟩, _⟩ := hent i m0 e hm0 g1
      exact ⟨⟨q1, q2⟩, hu⟩
    · rw [if_neg (fun e => hne e.symm)] at hm
      exact hent i m' e' hm he)
  refine ⟨_, ?_, h1, h2⟩
  simp [Instr.entryStore, MapKept.run_getObj_map hblk, asInt, asIntOf, hfi, run_setObj_map _ hblk, Result.andThen]

theorem makeMap_gd {h : List Ho} (hi : Inv F φ w h) {rn : Nat} (hrn : φ[rn]? = some .yet) (t : TypeId) :
    ∃ u w', (Instr.makeMap t none).run P w = .ok u w' ∧ ∃ φ', Ext φ w φ' w' ∧ Inv F φ' w' (h.set rn (.map ⟨0, []⟩)) ∧ Den F φ' w' u (.mp rn) := by
  obtain ⟨a1, a2⟩ := more_alloc w (.map #[] 0)
  have hp : ∀ b, (Pl.obj w.heap.size 0).blk = some b → w.heap.size ≤ b := fun b hb => by cases hb; exact Nat.le_refl _
  have he := Ext.fill (φ := φ) (.obj w.heap.size 0) hrn a1 a2 hp
  have hat : (φ.set rn (.obj w.heap.size 0))[rn]? = some (.obj w.heap.size 0) := List.getElem?_set_self (get_lt hrn)
  refine ⟨.map (some w.heap.size), w.alloc (.map #[] 0), by simp [Instr.makeMap], _, he, hi.fill _ _ hrn a1 a2 hp ⟨#[], 0, heap_alloc_new w _, ⟨rfl, rfl⟩, fun j m e hm => by simp at hm⟩, .mp ⟨_, hat, by simp⟩ fun b' hb' => ?_⟩
  rw [hat] at hb'; cases hb'; rfl
/-- Bytes that are an object's, marked as a constant text's, are data from then on. -/
theorem convHV_gd {h h' : List Ho} (hi : Inv F φ w h) {src dst : TypeId} {g : Bool} {k o off n : Nat} {v : V} {r : Value} (hc : convHV P h src dst k o off n = some (v, h')) (hr : Den F φ w r (.hs g k o off n)) :
    ∃ u w', (convert src dst r).run P w = .ok u w' ∧ ∃ φ', Ext φ w φ' w' ∧ Inv F φ' w' h' ∧ Den F φ' w' u v := by
  unfold convHV at hc
  split at hc
  case h_2 => cases hc
  rename_i cs hcs
  split at hc
  case h_2 => cases hc
  rename_i s e ds hs hd hds
  split at hc
  case h_2 => cases hc
  rename_i he
  split at hc
  case isFalse => cases hc
  rename_i hcond
  obtain ⟨rfl, rfl, rfl, hn, h0⟩ := hcond
  cases hc
  obtain ⟨ho, hcase⟩ := hsInv hr
  rcases hcase with ⟨b, cap, rfl, hb, hcap, hcm, _⟩ | ⟨e0, _⟩
  case inr => omega
  rcases obj_cells hi hcs with ⟨e1, _⟩ | ⟨b', z, arr, T, hp, hrow, hz, hlen, hce⟩
  · rw [e1] at hn; simp at hn; omega
  obtain ⟨rfl, _⟩ := hb b' hp
  obtain ⟨hdl, hdd⟩ := toDs_den hds hce.1
  have hbl := hi.lt hp rfl
  obtain ⟨w', hw'⟩ : ∃ w', w' = w.freeze ⟨b', arr.size, none⟩ 1 := ⟨_, rfl⟩
  have hrun : (convert src src (.slice (some ⟨b', 0, none⟩) n cap)).run P w = .ok (.slice (some ⟨b', 0, none⟩) n cap) w' := by
    have hsh : w.shape? b' = some (T, arr.size) := by unfold World.shape?; rw [hrow]
    rw [hs] at hd
    cases hd
    simp [convert, run_underlying hs, run_underlying he, markStringish, hsh, hw']
  have hheap : ∀ x : Nat, w'.heap[x]? = if x = b' then some (.cells arr T (arr.size, arr.size + 1)) else w.heap[x]? := fun x => by
    rw [hw']
    unfold World.freeze
    rw [if_neg (by decide)]
    show (w.heap.modify b' _)[x]? = _
    rw [Array.getElem?_modify]
    by_cases hx : b' = x
    · subst hx; rw [if_pos rfl, if_pos rfl, hrow]; rfl
    · rw [if_neg hx, if_neg (fun e => hx e.symm)]
  have hsize : w'.heap.size = w.heap.size := by
    rw [hw']; unfold World.freeze; rw [if_neg (by decide)]; show (w.heap.modify b' _).size = _; simp
  have hio : Still w w' := by rw [hw']; unfold World.freeze; rw [if_neg (by decide)]; exact ⟨rfl, rfl, rfl⟩
  have hother : ∀ (i : Nat) (p : Pl) (x : Nat), i ≠ o → φ[i]? = some p → p.blk = some x → x ≠ b' := fun i p x hne hpi hx e => by
    subst e; exact hne (hi.apart i o p _ x hpi hp hx rfl)
  have hext : Ext φ w (φ.set o .dead) w' := by
    refine ⟨by omega, by simp, fun i hl => ?_, fun x hx hno => ?_, fun i x e hpi c T' fr hx => ?_, fun i x hpi hx => ?_, fun i x e' hpi hx => ?_, hio⟩
    · rw [List.getElem?_set]
      by_cases e : o = i
      · subst e; rw [if_pos rfl, if_pos (get_lt hp)]; exact .inr rfl
      · rw [if_neg e]; exact .inl rfl
    · rw [hheap, if_neg]; intro e; subst e; exact hno o _ hp rfl
    · have hne : i ≠ o := fun e => by subst e; rw [hp] at hpi; cases hpi
      exact ⟨c, by rw [hheap, if_neg (hother i _ x hne hpi rfl)]; exact hx, rfl, fun _ _ => rfl⟩
    · rcases get_set hpi with ⟨_, e, _⟩ | ⟨_, hpi⟩
      · cases e
      · exact ⟨i, _, hpi⟩
    · rcases get_set hpi with ⟨_, e, _⟩ | ⟨_, hpi⟩
      · cases e
      · exact .inl ⟨i, e', hpi, Nat.le_refl _⟩
  have hinv : Inv F (φ.set o .dead) w' (h.set o .dead) := by
    refine hi.step hext (by simp [hi.len]) (fun j p x hpj hx => ?_) (fun j l p q x hpj hpl hx hx' => ?_) fun j p x hpj hx => ?_
    · rcases get_set hpj with ⟨rfl, rfl, _⟩ | ⟨hne, hpj⟩
      · rcases get_set hx with ⟨_, rfl, _⟩ | ⟨hne, _⟩
        · exact .inr trivial
        · exact absurd rfl hne
      · rcases get_set hx with ⟨e, _, _⟩ | ⟨_, hx⟩
        · exact absurd e hne
        · exact .inl ⟨hpj, hx, fun y hy => by rw [hheap, if_neg (hother j p y hne hpj hy)]⟩
    · rcases get_set hpj with ⟨_, rfl, _⟩ | ⟨_, hpj⟩
      · cases hx
      · rcases get_set hpl with ⟨_, rfl, _⟩ | ⟨_, hpl⟩
        · cases hx'
        · exact hi.apart j l p q x hpj hpl hx hx'
    · rcases get_set hpj with ⟨_, rfl, _⟩ | ⟨_, hpj⟩
      · cases hx
      · exact .inl ⟨j, p, hpj, hx⟩
  have hpr : ∀ j, prot F (φ.set o .dead) w' b' j := fun j => by
    refine ⟨by omega, fun i hpi => ?_, fun i e hpi => ?_, hi.frO o _ b' j hp rfl⟩
    · rcases get_set hpi with ⟨_, e, _⟩ | ⟨hne, hpi⟩
      · cases e
      · exact absurd rfl (hother i _ b' hne hpi rfl)
    · rcases get_set hpi with ⟨_, e, _⟩ | ⟨hne, hpi⟩
      · cases e
      · exact absurd rfl (hother i _ b' hne hpi rfl)
  refine ⟨_, w', hrun, _, hext, hinv, .d ?_⟩
  have hcell : ∀ (j : Nat) (x : D), ds[j]? = some x → ∃ u, arr[j]? = some u ∧ DenD F φ w u x := fun j x hx => by
    obtain ⟨u, h1, h2⟩ := hdd j x hx
    rw [List.getElem?_take] at h1
    split at h1
    · rw [Array.getElem?_toList] at h1; exact ⟨u, h1, h2⟩
    · cases h1
  have hdn : ds.length = n := by rw [hdl]; simp; omega
  refine .sl (fun i _ => (arr[i]?).getD undef) (by simp [hdn]) ⟨hcap, hcm⟩ (fun i e he' => ?_) (fun i j hi' hj => ?_) fun i e j x he' hx => ?_
  · rw [List.getElem?_map] at he'
    obtain ⟨y, _, rfl⟩ := Option.map_eq_some_iff.1 he'
    rfl
  · obtain ⟨x, hx⟩ := ofLtL (xs := ds) (i := i) (by omega)
    obtain ⟨u, h1, _⟩ := hcell i x hx
    obtain rfl : j = 0 := by omega
    refine ⟨hpr _, (cell_of w' b' _ _).2 ⟨arr, T, _, by rw [hheap, if_pos rfl], ?_⟩⟩
    simp [h1]
  · rw [List.getElem?_map] at he'
    obtain ⟨y, hy, rfl⟩ := Option.map_eq_some_iff.1 he'
    cases j with
    | zero =>
      simp at hx; subst hx
      obtain ⟨u, h1, h2⟩ := hcell i y hy
      rw [h1]
      exact h2.ext hext
    | succ j => simp at hx
end
end Go.Proofs.YtonllhjmoenckaaDoor
