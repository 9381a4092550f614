/- The pure step of an operation is what the model's operation does: appends, conversions. No program stands here. -/
import Derived.Test.YtonllhjmoenckaaDoorVsF
import Derived.Laws.AppendOwn
namespace Go.Proofs.YtonllhjmoenckaaDoor
open Go Go.RowKit
set_option linter.unusedVariables false
set_option linter.unusedSimpArgs false
variable {F : Fr}

section
variable {P : Program} {F : Fr} {φ : List Pl} {w : World}

/-- The cells that a slice's list lies in. -/
theorem DenD.bear {k n cap b off : Nat} {es : List (List D)} (h0 : 0 < k) (h : DenD F φ w (.slice (some ⟨b, off, none⟩) n cap) (.sl k es)) (hn : es.length = n) :
    ∃ cells : Array Value, Bear F φ w k cells es ∧ ∀ j v, cells.toList[j]? = some v → w.cell? ((⟨b, off, none⟩ : Addr).add j) = some v := by
  rcases h.slInv with ⟨a0, e1, rfl⟩ | ⟨cap', b', off', c, e1, hcap, hk, hc, hd⟩
  · cases e1; exact ⟨#[], ⟨by simp, fun i e he => by simp at he, fun x hx => by simp at hx, fun i e j x he => by simp at he⟩, fun j v hj => by simp at hj⟩
  · cases e1
    have dm : ∀ q, q < es.length * k → q / k < es.length ∧ q % k < k ∧ q / k * k + q % k = q := fun q hq =>
      ⟨(Nat.div_lt_iff_lt_mul h0).2 hq, Nat.mod_lt _ h0, by rw [Nat.mul_comm]; exact Nat.div_add_mod q k⟩
    have hget : ∀ (j : Nat) (v : Value), ((List.range (es.length * k)).map fun q => c (q / k) (q % k))[j]? = some v → j < es.length * k ∧ v = c (j / k) (j % k) := fun j v hv => by
      rw [List.getElem?_map] at hv
      obtain ⟨q, hq, rfl⟩ := Option.map_eq_some_iff.1 hv
      have := get_lt hq
      simp only [List.length_range] at this
      rw [List.getElem?_range this] at hq; cases hq
      exact ⟨this, rfl⟩
    refine ⟨((List.range (es.length * k)).map fun q => c (q / k) (q % k)).toArray, ⟨by simp, hk, fun x hx => ?_, fun i e j x he hx => ?_⟩, fun j v hv => ?_⟩
    · obtain ⟨j, hj⟩ := List.mem_iff_getElem?.1 hx
      obtain ⟨hlt, rfl⟩ := hget j x (by simpa using hj)
      obtain ⟨d1, d2, _⟩ := dm j hlt
      obtain ⟨e, he⟩ := ofLtL d1
      obtain ⟨y, hy⟩ := ofLtL (xs := e) (i := j % k) (by rw [hk _ _ he]; exact d2)
      exact (hd _ _ _ _ he hy).one
    · have hi := get_lt he
      have hj : j < k := by have := get_lt hx; rw [hk i e he] at this; exact this
      have hlt : i * k + j < es.length * k := by
        have : (i + 1) * k ≤ es.length * k := Nat.mul_le_mul_right k hi
        rw [Nat.add_mul] at this; omega
      refine ⟨c i j, ?_, hd i e j x he hx⟩
      have e1 : (i * k + j) / k = i := by rw [Nat.mul_comm, Nat.mul_add_div h0, Nat.div_eq_of_lt hj, Nat.add_zero]
      have e2 : (i * k + j) % k = j := by rw [Nat.mul_comm, Nat.mul_add_mod]; exact Nat.mod_eq_of_lt hj
      simp only [List.getElem?_toArray, List.getElem?_map, List.getElem?_range hlt, Option.map_some, e1, e2]
    · obtain ⟨hlt, rfl⟩ := hget j v (by simpa using hv)
      obtain ⟨d1, d2, d3⟩ := dm j hlt
      rw [add_addr]
      have := (hc _ _ d1 d2).2
      rwa [Nat.add_assoc, d3] at this

theorem Bear.append {k : Nat} {a b : Array Value} {xs ys : List (List D)} (h : Bear F φ w k a xs) (h' : Bear F φ w k b ys) : Bear F φ w k (a ++ b) (xs ++ ys) := by
  obtain ⟨a1, a2, a3, a4⟩ := h
  obtain ⟨b1, b2, b3, b4⟩ := h'
  refine ⟨by simp [a1, b1, Nat.add_mul], fun i e he => ?_, fun x hx => ?_, fun i e j x he hx => ?_⟩
  · rw [List.getElem?_append] at he
    split at he
    · exact a2 i e he
    · exact b2 _ e he
  · simp only [Array.toList_append, List.mem_append] at hx
    rcases hx with hx | hx
    · exact a3 x hx
    · exact b3 x hx
  · rw [List.getElem?_append] at he
    split at he
    · obtain ⟨r, hr, hd⟩ := a4 i e j x he hx
      exact ⟨r, by rw [Array.getElem?_append_left (getLt hr)]; exact hr, hd⟩
    · rename_i hge
      obtain ⟨r, hr, hd⟩ := b4 _ e j x he hx
      refine ⟨r, ?_, hd⟩
      have e1 : i * k = xs.length * k + (i - xs.length) * k := by rw [← Nat.add_mul]; congr 1; omega
      rw [Array.getElem?_append_right (by omega), show i * k + j - a.size = (i - xs.length) * k + j by omega]
      exact hr

theorem Bear.nil {k : Nat} : Bear F φ w k #[] [] := ⟨by simp, fun i e h => by simp at h, fun x h => by simp at h, fun i e j x h => by simp at h⟩

theorem bs_len (l : List UInt8) : (bs l).length = l.length := by simp [bs]
theorem bs_get (l : List UInt8) (i : Nat) : (bs l)[i]? = (l[i]?).map fun b => [D.sc (.int .u8 b.toNat)] := by simp [bs]
theorem bear_bytes (l : List UInt8) : Bear F φ w 1 (l.map fun b => Value.int .u8 b.toNat).toArray (bs l) := by
  refine ⟨by simp [bs_len], fun i e he => ?_, fun x hx => ?_, fun i e j x he hx => ?_⟩
  · rw [bs_get] at he
    obtain ⟨b, _, rfl⟩ := Option.map_eq_some_iff.1 he
    rfl
  · simp at hx
    obtain ⟨b, _, rfl⟩ := hx
    rfl
  · rw [bs_get] at he
    obtain ⟨b, hb, rfl⟩ := Option.map_eq_some_iff.1 he
    have : j = 0 := by have := get_lt hx; simp at this; omega
    subst this
    simp at hx; subst hx
    exact ⟨.int .u8 b.toNat, by simp [hb], .sc rfl⟩

/-- What is appended. -/
theorem srcOf_run {k : Nat} (h0 : 0 < k) {xt : TypeId} {x : V} {xs : List (List D)} (h : srcOf P k xt x = some xs) {r : Value} (hr : Den F φ w r x) :
    (∃ d, P.underlying xt = some d ∧ ∀ q, d ≠ .int q) ∧ (∀ w', (Builtin.lenOf r).run P w' = .ok xs.length w') ∧
      ∃ news : Array Value, Bear F φ w k news xs ∧ ∀ w', w'.heap = w.heap → (Builtin.firstCells k xs.length r).run P w' = .ok news w' := by
  unfold srcOf at h
  split at h
  · rename_i e hu
    refine ⟨⟨_, hu, by simp⟩, ?_⟩
    have hd := esOf_den h hr
    rcases hd.slInv with ⟨a0, rfl, rfl⟩ | ⟨cap, b, off, c, rfl, _⟩
    · exact ⟨fun w' => by simp [Builtin.lenOf], #[], .nil, fun w' _ => by cases a0 <;> simp [Builtin.firstCells, loadCells, loadCellsFrom]⟩
    · obtain ⟨cells, hb, hc⟩ := hd.bear h0 rfl
      refine ⟨fun w' => by simp [Builtin.lenOf], cells, hb, fun w' hw => ?_⟩
      have := run_firstCells_some (P := P) w' k xs.length ⟨b, off, none⟩ xs.length cap cells.toList (by simpa using hb.1) (fun j v hj => by
        have := hc j v hj
        unfold World.cell? at this ⊢
        rw [hw]; exact this)
      simpa using this
  · rename_i hu
    split at h
    · rename_i s
      split at h
      · rename_i hk; cases h; subst hk
        obtain ⟨rfl, _⟩ := hr.sc
        have hl : s.toList.length = s.size := by rw [ByteArray.toList_eq]; simp
        refine ⟨⟨_, hu, by simp⟩, fun w' => by simp [Builtin.lenOf, bs_len, hl], _, bear_bytes s.toList, fun w' _ => ?_⟩
        simp only [Builtin.firstCells, Sem.run_pure, bs_len, hl]
        congr 1
        have he : s.extract 0 s.size = s := by ext1; simp
        rw [he]
        apply Array.ext'
        simp [ByteArray.toList_eq]
      · cases h
    · cases h
  · cases h

theorem zeroT_run {t : TypeId} {z : Value} (h : zeroT P t = some z) : (zeroValue t).run P w = .ok z w := by
  unfold zeroT at h
  cases hq : P.info? t with
  | none => simp [hq] at h
  | some i =>
    have : i.zero = some z := by simpa [hq] using h
    simp [zeroValue, typeInfo, hq, this]

section
variable {st xt ty e : TypeId} {k b : Nat} {z : Value} (hu : P.underlying st = some (.slice e)) {dx : TypeDesc} (hx : P.underlying xt = some dx) (hxi : ∀ q, dx ≠ .int q)
  (hk : szT P e = some k) (hb : byT P e = some b) (hz : zeroT P e = some z) {x : Value} {m : Nat} (hl : ∀ w', (Builtin.lenOf x).run P w' = .ok m w') {news : Array Value}
  (hf : ∀ w' : World, w'.heap = w.heap → (Builtin.firstCells k m x).run P w' = .ok news w')
include hu hx hxi hk hb hz hl hf

omit hb hz in
theorem app_fit {g n cap : Nat} {cur : Array Value} {T : TypeId} (hg : w.heap[g]? = some (.cells cur T (0, 0))) (hfit : n * k + news.size ≤ cur.size) (h1 : ∀ v ∈ news.toList, v.oneCell' = true) (hroom : n + m ≤ cap) :
    (Builtin.append_ #[st, xt] ty #[.slice (some ⟨g, 0, none⟩) n cap, x]).run P w =
      .ok (.slice (some ⟨g, 0, none⟩) (n + m) cap) (w.setRow g (cur.toList.take (n * k) ++ news.toList ++ cur.toList.drop (n * k + news.toList.length)).toArray) := by
  have hst := run_storeCells_at (P := P) g (n * k) T news.toList 0 cur w hg (by simpa using hfit) h1
  simp only [Nat.add_zero] at hst
  have hz' : (dx matches TypeDesc.int _) = false := by cases dx <;> first | rfl | exact absurd rfl (hxi _)
  have hbad : (Addr.add ⟨g, 0, none⟩ (n * k)) = ⟨g, n * k, none⟩ := by rw [add_addr]; simp
  simp only [Builtin.append_, List.getElem?_toArray, List.getElem?_cons_zero, List.getElem?_cons_succ, Sem.run_bind, run_underlying hu, Result.andThen_ok, sz_run hk, run_underlying hx, Sem.run_pure]
  simp [hz', hl, hroom, hf w rfl, hbad, hst]

theorem app_grow {base : Option Addr} {n cap : Nat} {olds : Array Value} (hfo : ∀ w' : World, w'.heap = w.heap → (Builtin.firstCells k n (.slice base n cap)).run P w' = .ok olds w') (hg : cap < n + m)
    (hbd : (n + m) * b ≤ 140737488355328) (hbd2 : n + m ≤ 140737488355328) :
    (Builtin.append_ #[st, xt] ty #[.slice base n cap, x]).run P w =
      .ok (.slice (some ⟨w.heap.size, 0, none⟩) (n + m) (grownCap w (n + m) cap e)) (w.drew.alloc (.cells (olds ++ news ++ Builtin.zeroCells z.cells (grownCap w (n + m) cap e - (n + m))) e)) := by
  have hz' : (dx matches TypeDesc.int _) = false := by cases dx <;> first | rfl | exact absurd rfl (hxi _)
  have hn : ¬ (n + m ≤ cap) := by omega
  have hinfo : ∃ i, P.info? e = some i ∧ i.bytes = b := by
    unfold byT at hb
    cases hq : P.info? e with
    | none => simp [hq] at hb
    | some i => exact ⟨i, rfl, by simpa [hq] using hb⟩
  obtain ⟨i, hi, hib⟩ := hinfo
  have h48 : ¬ (Builtin.nextslicecap (n + m) cap * b > 2 ^ 48) := by
    have := growslice_fits (need := n + m) (old := cap) (bytes := b) hg hbd
    omega
  have h63 : ¬ (((n + m : Nat) : Int) > IntKind.i64.max) := by simp [IntKind.max, IntKind.signed, IntKind.bits]; omega
  have hd : ∀ w', (typeInfo e).run P w' = .ok i w' := fun w' => by simp [typeInfo, hi]
  simp only [Builtin.append_, List.getElem?_toArray, List.getElem?_cons_zero, List.getElem?_cons_succ, Sem.run_bind, run_underlying hu, Result.andThen_ok, sz_run hk, run_underlying hx, Sem.run_pure]
  have hask : ∀ (w' : World), (choose (.appendCap (n + m) cap e)).run P w' = .ok (grownCap w' (n + m) cap e) w'.drew := fun w' => by
    rw [run_choose_drew]; simp [Question.forced, grownCap]
  simp only [hz', hl, Bool.false_eq_true, if_false, Sem.run_bind, Result.andThen_ok, Sem.run_ite, if_neg hn, hd, hib, if_neg h48, hask, run_askRoom, hfo w.drew rfl, hf w.drew rfl, zeroT_run hz, Sem.run_pure, newRow, run_newObj_alloc, Bool.not_false, if_true, false_and, and_false]
  have h63' : ¬ (((n + m : Nat) : Int) > IntKind.i64.max ∧ (False ∨ b = 0)) := fun h => h63 h.1
  simp only [gt_iff_lt] at h63' ⊢
  simp [h63', h63]
  intro hcon
  exfalso
  omega
end

theorem drew_more (o : Obj) : w.heap.size ≤ (w.drew.alloc o).heap.size ∧ ∀ b, b < w.heap.size → (w.drew.alloc o).heap[b]? = w.heap[b]? := more_alloc w.drew o

/-- An append that makes a new array. -/
theorem grow_gd {h : List Ho} (hi : Inv F φ w h) {rn : Nat} (hrn : φ[rn]? = some .yet) {st xt ty e : TypeId} {k b : Nat} {z : Value} (hu : P.underlying st = some (.slice e)) (hk : szT P e = some k) (hb : byT P e = some b) (hz : zeroT P e = some z) (h0 : 0 < k) (hzs : z.cells.size = k)
    {base : Option Addr} {n cap : Nat} {es xs : List (List D)} (hd : DenD F φ w (.slice base n cap) (.sl k es)) (hn : es.length = n) {x : V} {rx : Value} (hsrc : srcOf P k xt x = some xs) (hrx : Den F φ w rx x)
    (hg : cap < n + xs.length) (hbd : (es.length + xs.length) * b ≤ appBound) (hbd2 : es.length + xs.length ≤ appBound) :
    ∃ u w', (Builtin.append_ #[st, xt] ty #[.slice base n cap, rx]).run P w = .ok u w' ∧ ∃ φ', Ext φ w φ' w' ∧ Inv F φ' w' (h.set rn .tail) ∧ Den F φ' w' u (.own k (es ++ xs) rn) := by
  obtain ⟨⟨dx, hx, hxi⟩, hl, news, hnb, hf⟩ := srcOf_run h0 hsrc hrx
  have holds : ∃ olds : Array Value, Bear F φ w k olds es ∧ ∀ w' : World, w'.heap = w.heap → (Builtin.firstCells k n (.slice base n cap)).run P w' = .ok olds w' := by
    rcases hd.slInv with ⟨a0, e1, rfl⟩ | ⟨cap', b', off, c, e1, _⟩
    · cases e1; exact ⟨#[], .nil, fun w' _ => by cases base <;> simp [Builtin.firstCells, loadCells, loadCellsFrom]⟩
    · cases e1
      obtain ⟨cells, hbe, hc⟩ := hd.bear h0 hn
      refine ⟨cells, hbe, fun w' hw => ?_⟩
      have := run_firstCells_some (P := P) w' k es.length ⟨b', off, none⟩ es.length cap cells.toList (by simpa using hbe.1) (fun j v hj => by
        have := hc j v hj
        unfold World.cell? at this ⊢
        rw [hw]; exact this)
      simpa using this
  obtain ⟨olds, hob, hfo⟩ := holds
  simp only [appBound] at hbd hbd2
  have hrun := app_grow (ty := ty) hu hx hxi hk hb hz hl hf hfo hg (by rw [← hn]; omega) (by omega)
  have hge : n + xs.length ≤ grownCap w (n + xs.length) cap e := grownCap_ge w _ _ _
  have hGm : grownCap w (n + xs.length) cap e ≤ 9223372036854775807 := grownCap_le_maxLen w _ cap e (by unfold maxLen; omega)
  generalize hG : grownCap w (n + xs.length) cap e = G at hrun hge hGm
  generalize hblk : olds ++ news ++ Builtin.zeroCells z.cells (G - (n + xs.length)) = blk at hrun
  obtain ⟨a1, a2⟩ := drew_more (w := w) (.cells blk e)
  have hnew : (w.drew.alloc (.cells blk e)).heap[w.heap.size]? = some (.cells blk e (0, 0)) := heap_alloc_new w.drew _
  have hsz : blk.size = G * k := by
    rw [← hblk]
    simp only [Array.size_append, hob.1, hnb.1, size_zeroCells, hzs, ← Nat.add_mul]
    congr 1; omega
  have hp : ∀ b', (Pl.tail w.heap.size ((n + xs.length) * k)).blk = some b' → w.heap.size ≤ b' := fun b' h => by cases h; exact Nat.le_refl _
  have he := Ext.fill (φ := φ) (.tail w.heap.size ((n + xs.length) * k)) hrn a1 a2 hp
  have hat : (φ.set rn (.tail w.heap.size ((n + xs.length) * k)))[rn]? = some (.tail w.heap.size ((n + xs.length) * k)) := List.getElem?_set_self (get_lt hrn)
  have hbear : Bear F φ w k (olds ++ news) (es ++ xs) := hob.append hnb
  have hbs : (olds ++ news).size = (n + xs.length) * k := by rw [hbear.1]; simp [hn]
  have hle : (n + xs.length) * k ≤ G * k := Nat.mul_le_mul_right k hge
  refine ⟨_, _, hrun, _, he, hi.fill _ _ hrn a1 a2 hp ⟨blk, ⟨e, hnew⟩, by omega⟩, ?_⟩
  have hlen : (es ++ xs).length = n + xs.length := by simp [hn]
  have hpr : ∀ o, o < (olds ++ news).size → prot F (φ.set rn (.tail w.heap.size ((n + xs.length) * k))) (w.drew.alloc (.cells blk e)) w.heap.size o := fun o ho => by
    refine ⟨heap_lt hnew, fun i hi' => ?_, fun i e' hi' => ?_, fun hF => absurd (hi.frB _ _ hF) (by omega)⟩
    · rcases get_set hi' with ⟨_, h, _⟩ | ⟨_, h⟩
      · cases h
      · exact absurd (hi.lt h rfl) (by omega)
    · rcases get_set hi' with ⟨_, h, _⟩ | ⟨_, h⟩
      · cases h; omega
      · exact absurd (hi.lt h rfl) (by omega)
  have hden := (hbear.ext he).den hnew (fun i hlt => by rw [← hblk, Array.getElem?_append_left hlt]) hpr G ⟨by omega, hGm⟩
  rw [hlen] at hden
  refine .own ⟨_, hat, by simp⟩ hden hlen (fun b' e' hb' => ?_) (fun hb' => ?_) (fun b' hb' => ?_)
  · rw [hat] at hb'; cases hb'
    exact ⟨rfl, rfl, blk, e, hnew, hsz⟩
  · rw [hat] at hb'; cases hb'
  · rw [hat] at hb'; cases hb'

/-- A slice without room. -/
theorem exact_gd {h : List Ho} (hi : Inv F φ w h) {rn : Nat} (hrn : φ[rn]? = some .yet) {st xt ty e : TypeId} {k b : Nat} {z : Value} (hu : P.underlying st = some (.slice e)) (hk : szT P e = some k) (hb : byT P e = some b) (hz : zeroT P e = some z) (h0 : 0 < k) (hzs : z.cells.size = k)
    {r : Value} {es xs : List (List D)} (hd : DenD F φ w r (.sl k es)) (hr : ∃ a : Option Addr, r = .slice a es.length es.length) {x : V} {rx : Value} (hsrc : srcOf P k xt x = some xs) (hrx : Den F φ w rx x)
    (hbd : (es.length + xs.length) * b ≤ appBound) (hbd2 : es.length + xs.length ≤ appBound) :
    ∃ u w', (Builtin.append_ #[st, xt] ty #[r, rx]).run P w = .ok u w' ∧ ∃ φ', Ext φ w φ' w' ∧ Inv F φ' w' (h.set rn .tail) ∧ Den F φ' w' u (.own k (es ++ xs) rn) := by
  obtain ⟨a, rfl⟩ := hr
  by_cases hx0 : xs = []
  · subst hx0
    obtain ⟨⟨dx, hx, hxi⟩, hl, news, hnb, hf⟩ := srcOf_run h0 hsrc hrx
    have hn0 : news = #[] := Array.eq_empty_of_size_eq_zero (by simpa using hnb.1)
    subst hn0
    have hp : ∀ b', (Pl.free).blk = some b' → w.heap.size ≤ b' := fun b' h => by cases h
    have he := Ext.fill (φ := φ) (w := w) (w' := w) .free hrn (Nat.le_refl _) (fun _ _ => rfl) hp
    have hinv := hi.fill (w' := w) .free .tail hrn (Nat.le_refl _) (fun _ _ => rfl) hp trivial
    have hat : (φ.set rn .free)[rn]? = some .free := List.getElem?_set_self (get_lt hrn)
    have hz' : (dx matches TypeDesc.int _) = false := by cases dx <;> first | rfl | exact absurd rfl (hxi _)
    have hfw := hf w rfl
    simp only [List.length_nil] at hfw
    have hlen : ∀ l : List (List D), (l ++ []).length = l.length := fun l => by simp
    refine ⟨.slice a es.length es.length, w, ?_, _, he, hinv, ?_⟩
    · simp only [Builtin.append_, List.getElem?_toArray, List.getElem?_cons_zero, List.getElem?_cons_succ, Sem.run_bind, run_underlying hu, Result.andThen_ok, sz_run hk, run_underlying hx, Sem.run_pure]
      cases a with
      | none => simp only [hz', hl, Bool.false_eq_true, if_false, Sem.run_bind, Result.andThen_ok, Sem.run_ite, hfw, List.length_nil, Nat.add_zero, Nat.le_refl, if_true, Sem.run_pure, Bool.not_false]
      | some ad => simp only [hz', hl, Bool.false_eq_true, if_false, Sem.run_bind, Result.andThen_ok, Sem.run_ite, hfw, List.length_nil, Nat.add_zero, Nat.le_refl, if_true, Sem.run_pure, Bool.not_false, storeCells]
    · rw [List.append_nil]
      exact .ownEx ⟨_, hat, by simp⟩ (.inl hat) (hd.ext he) rfl
  · have hpos : 0 < xs.length := List.length_pos_iff.2 hx0
    exact grow_gd hi hrn hu hk hb hz h0 hzs hd rfl hsrc hrx (by omega) hbd hbd2

/-- An append that fits. -/
theorem fit_gd {h : List Ho} (hi : Inv F φ w h) {rn : Nat} (hrn : φ[rn]? = some .yet) {st xt ty e : TypeId} {k : Nat} (hu : P.underlying st = some (.slice e)) (hk : szT P e = some k) (h0 : 0 < k)
    {g n cap t : Nat} {es xs : List (List D)} (hd : DenD F φ w (.slice (some ⟨g, 0, none⟩) n cap) (.sl k es)) (hn : es.length = n) {x : V} {rx : Value} (hsrc : srcOf P k xt x = some xs) (hrx : Den F φ w rx x)
    (ht : φ[t]? = some (.tail g (n * k))) {cur : Array Value} {T : TypeId} (hg : w.heap[g]? = some (.cells cur T (0, 0))) (hcs : cur.size = cap * k) (hroom : n + xs.length ≤ cap) :
    ∃ u w', (Builtin.append_ #[st, xt] ty #[.slice (some ⟨g, 0, none⟩) n cap, rx]).run P w = .ok u w' ∧ ∃ φ', Ext φ w φ' w' ∧ Inv F φ' w' ((h.set t .dead).set rn .tail) ∧ Den F φ' w' u (.own k (es ++ xs) rn) := by
  obtain ⟨⟨dx, hx, hxi⟩, hl, news, hnb, hf⟩ := srcOf_run h0 hsrc hrx
  obtain ⟨olds, hob, hoc⟩ := hd.bear h0 hn
  have hns := hnb.1
  have hos := hob.1
  have hle : (n + xs.length) * k ≤ cap * k := Nat.mul_le_mul_right k hroom
  rw [Nat.add_mul] at hle
  have hrun := app_fit (ty := ty) hu hx hxi hk hl hf hg (n := n) (cap := cap) (by omega) hnb.2.2.1 hroom
  have hnl : news.toList.length = xs.length * k := by simpa using hns
  generalize hW : w.setRow g (cur.toList.take (n * k) ++ news.toList ++ cur.toList.drop (n * k + news.toList.length)).toArray = w' at hrun
  have hsize : w'.heap.size = w.heap.size := by rw [← hW]; exact size_setRow w g _
  have hio : Still w w' := by rw [← hW]; exact ⟨rfl, rfl, rfl⟩
  have hoth : ∀ b, b ≠ g → w'.heap[b]? = w.heap[b]? := fun b hb => by rw [← hW]; exact setRow_other w g b _ hb
  have hblk : w'.heap[g]? = some (.cells (cur.toList.take (n * k) ++ news.toList ++ cur.toList.drop (n * k + news.toList.length)).toArray T (0, 0)) := by rw [← hW]; exact setRow_heap w g cur _ T _ hg
  generalize hN : (cur.toList.take (n * k) ++ news.toList ++ cur.toList.drop (n * k + news.toList.length)).toArray = new at hblk
  have hnsz : new.size = cur.size := by rw [← hN]; simp only [List.size_toArray]; rw [splice_len _ _ _ (by rw [hnl]; simp; omega)]; simp
  have hget : ∀ j, new[j]? = if j < n * k then cur[j]? else if j < n * k + xs.length * k then news[j - n * k]? else cur[j]? := fun j => by
    rw [← hN, List.getElem?_toArray, splice_get _ _ _ (by rw [hnl]; simp; omega), hnl]; simp
  have hap : ∀ (j : Nat) (q : Pl), φ[j]? = some q → q.blk = some g → j = t := fun j q hq hqb => hi.apart j t q _ g hq ht hqb rfl
  have hc : ∀ c T' fr, w.heap[g]? = some (.cells c T' fr) → ∃ c', w'.heap[g]? = some (.cells c' T' fr) ∧ c'.size = c.size ∧ ∀ o : Nat, o < n * k → c'[o]? = c[o]? := fun c T' fr h => by
    rw [hg] at h; cases h
    exact ⟨new, hblk, hnsz, fun o ho => by rw [hget, if_pos ho]⟩
  have he := Ext.tailOn ht hrn (e' := (n + xs.length) * k) (by rw [Nat.add_mul]; omega) hap hsize hoth hc
  have hinv := hi.tailOn ht hrn (e' := (n + xs.length) * k) (by rw [Nat.add_mul]; omega) hsize hoth hc fun c T' fr h => by
    rw [hblk] at h; cases h; rw [hnsz, hcs, Nat.add_mul]; exact hle
  refine ⟨_, _, hrun, _, he, hinv, ?_⟩
  have hbear : Bear F φ w k (olds ++ news) (es ++ xs) := hob.append hnb
  have hbs : (olds ++ news).size = (n + xs.length) * k := by rw [hbear.1]; simp [hn]
  have hlen : (es ++ xs).length = n + xs.length := by simp [hn]
  have htl := get_lt ht
  have hpr : ∀ o, o < (olds ++ news).size → prot F ((φ.set t .dead).set rn (.tail g ((n + xs.length) * k))) w' g o := fun o ho => by
    refine ⟨heap_lt hblk, fun i hi' => ?_, fun i e' hi' => ?_, hi.frO t _ g o ht rfl⟩
    · rcases get_set hi' with ⟨_, h, _⟩ | ⟨_, h⟩
      · cases h
      · rcases get_set h with ⟨_, h, _⟩ | ⟨hne, h⟩
        · cases h
        · exact hne (hap i _ h rfl)
    · rcases get_set hi' with ⟨_, h, _⟩ | ⟨_, h⟩
      · cases h; omega
      · rcases get_set h with ⟨_, h, _⟩ | ⟨hne, h⟩
        · cases h
        · exact absurd (hap i _ h rfl) hne
  have holdc : ∀ j, j < n * k → cur[j]? = olds[j]? := fun j hj => by
    obtain ⟨v, hv⟩ := ofLt (xs := olds) (i := j) (by rw [hos, hn]; exact hj)
    have := hoc j v (by simpa using hv)
    rw [add_addr] at this
    obtain ⟨c, T', fr, h1, h2⟩ := (cell_of w g _ v).1 this
    rw [hg] at h1; cases h1
    simp only [Nat.zero_add] at h2
    rw [h2, hv]
  have hcapm : cap ≤ 9223372036854775807 := by
    rcases hd.slInv with ⟨a0, e1, _⟩ | ⟨cap', _, _, _, e1, hcap', _⟩
    · cases e1; exact Nat.zero_le _
    · cases e1; exact hcap'.2
  have hden := (hbear.ext he).den hblk (fun i hlt => by
    rw [hget]
    by_cases h1 : i < n * k
    · rw [if_pos h1, Array.getElem?_append_left (by rw [hos, hn]; exact h1), holdc i h1]
    · rw [if_neg h1, if_pos (by rw [hbs, Nat.add_mul] at hlt; exact hlt), Array.getElem?_append_right (by rw [hos, hn]; omega), hos, hn]) hpr cap ⟨by omega, hcapm⟩
  rw [hlen] at hden
  have hlast : ((φ.set t .dead).set rn (Pl.tail g ((n + xs.length) * k)))[rn]? = some (.tail g ((n + xs.length) * k)) := List.getElem?_set_self (by simpa using get_lt hrn)
  refine .own ⟨_, hlast, by simp⟩ hden hlen (fun b' e' hb' => ?_) (fun hb' => ?_) (fun b' hb' => ?_)
  · rw [hlast] at hb'; cases hb'
    exact ⟨rfl, rfl, new, T, hblk, by rw [hnsz, hcs]⟩
  · rw [hlast] at hb'; cases hb'
  · rw [hlast] at hb'; cases hb'

theorem appendV_gd {h h' : List Ho} (hi : Inv F φ w h) {rn : Nat} (hrn : φ[rn]? = some .yet) {st xt ty : TypeId} {s x v : V} {r rx : Value} (ha : appendV P h rn st xt s x = some (v, h')) (hr : Den F φ w r s) (hrx : Den F φ w rx x) :
    ∃ u w', (Builtin.append_ #[st, xt] ty #[r, rx]).run P w = .ok u w' ∧ ∃ φ', Ext φ w φ' w' ∧ Inv F φ' w' h' ∧ Den F φ' w' u v := by
  unfold appendV at ha
  split at ha
  · rename_i e hu
    split at ha
    · rename_i k b z hk hb hz
      split at ha
      · rename_i hcond
        obtain ⟨hzs, h0⟩ := hcond
        split at ha
        · rename_i xs hsrc
          split at ha
          · rename_i k' es t
            split at ha
            · rename_i hht
              split at ha
              · rename_i hc
                obtain ⟨rfl, hbd, hbd2⟩ := hc
                cases ha
                have hd : DenD F φ w r (.sl k' es) := esOf_den (k := k') (v := .own k' es t) (if_pos rfl) hr
                have hkill := hi.kill t
                have hext := Ext.kill φ w t
                have htl : t < φ.length := by rw [hi.len]; exact get_lt hht
                obtain ⟨p, hp⟩ := ofLtL htl
                have hpok := hi.ok t p _ hp hht
                have hne : t ≠ rn := fun e => by
                  subst e
                  have := hi.ok t _ _ hrn hht
                  exact this
                have hrn' : (φ.set t .dead)[rn]? = some .yet := by rw [List.getElem?_set_ne hne]; exact hrn
                have trans : ∀ {φ' : List Pl} {w' : World}, Ext (φ.set t .dead) w φ' w' → Ext φ w φ' w' := fun he => hext.trans hi he
                have viaExact : (∃ a : Option Addr, r = .slice a es.length es.length) → ∃ u w', (Builtin.append_ #[st, xt] ty #[r, rx]).run P w = .ok u w' ∧ ∃ φ', Ext φ w φ' w' ∧ Inv F φ' w' ((h.set t .dead).set rn .tail) ∧ Den F φ' w' u (.own k' (es ++ xs) rn) := fun hrr => by
                  obtain ⟨u, w', h1, φ', h2, h3, h4⟩ := exact_gd (ty := ty) hkill hrn' hu hk hb hz h0 hzs (hd.ext hext) hrr hsrc (hrx.ext hext) hbd hbd2
                  exact ⟨u, w', h1, φ', trans h2, h3, h4⟩
                cases hr with
                | ownEx _ _ _ hn => subst hn; exact viaExact ⟨_, rfl⟩
                | @own k2 t2 n cap g es2 ht hd2 hn hpl hf hno =>
                  cases p <;> simp only [ObOk] at hpok
                  · rename_i g' e'
                    obtain ⟨rfl, rfl, c, T, hc, hcs⟩ := hpl _ _ hp
                    by_cases hroom : n + xs.length ≤ cap
                    · exact fit_gd hi hrn hu hk h0 hd hn hsrc hrx hp hc hcs hroom
                    · obtain ⟨u, w', h1, φ', h2, h3, h4⟩ := grow_gd (ty := ty) hkill hrn' hu hk hb hz h0 hzs (hd.ext hext) hn hsrc (hrx.ext hext) (by omega) hbd hbd2
                      exact ⟨u, w', h1, φ', trans h2, h3, h4⟩
                  · have := hf hp
                    subst this
                    subst hn
                    exact viaExact ⟨_, rfl⟩
              · cases ha
            · cases ha
          · rename_i k' es
            split at ha
            · rename_i hc
              obtain ⟨rfl, hbd, hbd2⟩ := hc
              cases ha
              have hd : DenD F φ w r (.sl k' es) := esOf_den (k := k') (v := .full k' es) (if_pos rfl) hr
              cases hr with
              | full _ hn => subst hn; exact exact_gd hi hrn hu hk hb hz h0 hzs hd ⟨_, rfl⟩ hsrc hrx hbd hbd2
            · cases ha
          · split at ha
            · rename_i hc
              obtain ⟨hbd, hbd2⟩ := hc
              cases ha
              obtain ⟨rfl, _⟩ := hr.sc
              exact exact_gd (es := []) hi hrn hu hk hb hz h0 hzs .nil ⟨none, rfl⟩ hsrc hrx (by simpa using hbd) (by simpa using hbd2)
            · cases ha
          · cases ha
        · cases ha
      · cases ha
    · cases ha
  · cases ha

/-! ### Conversions -/
theorem unbs_bs : ∀ {es : List (List D)} {l : List UInt8}, unbs es = some l → es = bs l
  | [], l, h => by simp only [unbs] at h; cases h; rfl
  | e :: es, l, h => by
    unfold unbs at h
    split at h
    · rename_i h0; cases h0
    · rename_i n es' h0
      cases h0
      split at h
      · rename_i hn
        obtain ⟨l', hl', rfl⟩ := Option.map_eq_some_iff.1 h
        rw [unbs_bs hl']
        simp only [bs, List.map_cons]
        congr 4
        have : n.toNat < 256 := by omega
        simp [UInt8.toNat_ofNat, Nat.mod_eq_of_lt this]; omega
      · cases h
    · cases h
theorem bs_unbs (l : List UInt8) : unbs (bs l) = some l := by
  induction l with
  | nil => rfl
  | cons b l ih =>
    have h : (0 : Int) ≤ (b.toNat : Int) ∧ (b.toNat : Int) < 256 := ⟨by omega, by have := b.toNat_lt; omega⟩
    show unbs ([.sc (.int .u8 b.toNat)] :: bs l) = _
    simp only [unbs, if_pos h, ih, Option.map_some]
    simp

theorem convV_gd {h : List Ho} (hi : Inv F φ w h) {src dst : TypeId} {x v : V} {r : Value} (hc : convV P src dst x = some v) (hr : Den F φ w r x) :
    ∃ u w', (convert src dst r).run P w = .ok u w' ∧ ∃ φ', Ext φ w φ' w' ∧ Inv F φ' w' h ∧ Den F φ' w' u v := by
  unfold convV at hc
  split at hc
  · obtain ⟨rfl, _⟩ := hr.sc
    split at hc
    · rename_i d k hs hd
      cases hc
      exact ⟨_, w, by simp [convert, run_underlying hs, run_underlying hd, Conv.intToInt], φ, .refl φ w, hi, den_sc rfl⟩
    · rename_i d hs hd
      cases hc
      exact ⟨_, w, by simp [convert, run_underlying hs, run_underlying hd, Conv.intToString], φ, .refl φ w, hi, den_sc rfl⟩
    · cases hc
  · rename_i s
    obtain ⟨rfl, _⟩ := hr.sc
    split at hc
    · rename_i hs hd
      cases hc
      exact ⟨.string s, w, by simp [convert, run_underlying hs, run_underlying hd], φ, .refl φ w, hi, den_sc rfl⟩
    · rename_i e hs hd
      split at hc
      · rename_i he
        split at hc
        · rename_i hsz
          cases hc
          have hrun := run_bytes_of_string (P := P) w src dst e s hs hd he
          have hge := grownCap_ge w s.size 0 e
          have hGm : grownCap w s.size 0 e ≤ 9223372036854775807 := grownCap_le_maxLen w _ 0 e (by unfold maxLen; unfold appBound at hsz; omega)
          generalize grownCap w s.size 0 e = G at hrun hge hGm
          generalize hO : Obj.cells (bytesRow s G) e ((bytesRow s G).size, (bytesRow s G).size + 1) = O at hrun
          obtain ⟨a1, a2⟩ := drew_more (w := w) O
          have hext := Ext.more (φ := φ) a1 a2
          refine ⟨_, _, hrun, φ, hext, hi.more a1 a2, ?_⟩
          have hnew : (w.drew.alloc O).heap[w.heap.size]? = some O := heap_alloc_new w.drew _
          rw [← hO] at hnew ⊢
          have hl : s.toList.length = s.size := by rw [ByteArray.toList_eq]; simp
          have hpr : ∀ o, o < ((s.toList.map fun b => Value.int .u8 b.toNat).toArray).size → prot F φ (w.drew.alloc (Obj.cells (bytesRow s G) e ((bytesRow s G).size, (bytesRow s G).size + 1))) w.heap.size o := fun o _ => by
            refine ⟨heap_lt hnew, fun i hi' => ?_, fun i e' hi' => ?_, fun hF => absurd (hi.frB _ _ hF) (by omega)⟩
            · exact absurd (hi.lt hi' rfl) (by omega)
            · exact absurd (hi.lt hi' rfl) (by omega)
          have := (bear_bytes (φ := φ) (w := w.drew.alloc (Obj.cells (bytesRow s G) e ((bytesRow s G).size, (bytesRow s G).size + 1))) s.toList).den hnew (fun i hlt => by
            have hlt' : i < s.size := by simpa [hl] using hlt
            unfold bytesRow
            rw [Array.getElem?_append_left (by simpa using hlt')]
            simp [ByteArray.toList_eq]) hpr G ⟨by rw [bs_len, hl]; exact hge, hGm⟩
          rw [bs_len, hl] at this
          exact .d this
        · cases hc
      · cases hc
    · cases hc
  · split at hc
    · rename_i e hs hd
      split at hc
      · rename_i es he hes
        obtain ⟨l, hl, rfl⟩ := Option.map_eq_some_iff.1 hc
        have := unbs_bs hl
        subst this
        have hd' := esOf_den hes hr
        refine ⟨.string ⟨l.toArray⟩, w, ?_, φ, .refl φ w, hi, den_sc rfl⟩
        rcases hd'.slInv with ⟨a0, rfl, e0⟩ | ⟨cap, b, off, c, rfl, hcap, hk, hce, hde⟩
        · have : l = [] := by
            cases l with
            | nil => rfl
            | cons b l => simp [bs] at e0
          subst this
          cases a0 <;> simp [convert, run_underlying hs, run_underlying hd, run_underlying he, Conv.bytesToString, loadCells, loadCellsFrom] <;> rfl
        · rw [bs_len]
          refine run_convert_bytes_back w src dst e _ cap l hs he hd fun j hj => ?_
          rw [add_addr]
          have h1 := (hce j 0 (by rw [bs_len]; exact hj) (by omega)).2
          have h2 := hde j _ 0 _ (by rw [bs_get, List.getElem?_eq_getElem hj]; rfl) rfl
          have h3 : c j 0 = .int .u8 (l[j].toNat : Int) := (Den.d h2).sc.1
          rw [h3] at h1
          simpa using h1
      · cases hc
    · cases hc
end
end Go.Proofs.YtonllhjmoenckaaDoor
