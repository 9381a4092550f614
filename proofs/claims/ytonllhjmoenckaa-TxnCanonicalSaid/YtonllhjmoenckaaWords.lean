/- Words of our own on memory: a slice value that reads as a list of cells; bytes as values. No program stands here. -/
import Derived.Below
import Derived.WalkKit
import Derived.WalkSpells
import Derived.Laws.OwnMore
import Derived.Deep.AppendLies
import Derived.Deep.Draws
import Derived.Maps.AppendAt
import Derived.Lib.Hide
import Derived.Test.YtonllhjmoenckaaBits
namespace Go.Proofs.Ytonllhjmoenckaa
open Go.RowKit
set_option linter.unusedVariables false
set_option linter.unusedSimpArgs false

/-- A byte as a value. -/
def bv (b : UInt8) : Value := .int .u8 (B b)

theorem bv_one (b : UInt8) : (bv b).oneCell' = true := rfl
theorem bvs_one (l : List UInt8) : ∀ u ∈ l.map bv, u.oneCell' = true := by
  intro u hu
  obtain ⟨b, _, rfl⟩ := List.mem_map.1 hu
  rfl

theorem add_block (a : Addr) (n : Nat) : (a.add n).block = a.block := by unfold Addr.add; split <;> rfl
theorem add_zero_row (g j : Nat) : (⟨g, 0, none⟩ : Addr).add j = ⟨g, j, none⟩ := by unfold Addr.add; split <;> simp_all

/-- The value v is a slice whose n elements, of size cells each, read as cs. -/
def Sl (w : World) (size : Nat) (v : Value) (n : Nat) (cs : List Value) : Prop :=
  ∃ A c, v = .slice A n c ∧ n ≤ c ∧ c ≤ maxLen ∧ cs.length = n * size ∧
    (0 < n → ∃ ad, A = some ad ∧ ad.block < w.heap.size ∧ ∀ j u, cs[j]? = some u → w.cell? (ad.add j) = some u)

/-- A slice of bytes. -/
def Sb (w : World) (v : Value) (l : List UInt8) : Prop := Sl w 1 v l.length (l.map bv)

section
variable {w w' : World} {size n : Nat} {v : Value} {cs : List Value} {l : List UInt8}
theorem Sl.keep (h : Sl w size v n cs) (hs : w.heap.size ≤ w'.heap.size)
    (hk : ∀ ad : Addr, ad.block < w.heap.size → w'.cell? ad = w.cell? ad) : Sl w' size v n cs := by
  obtain ⟨A, c, hv, h1, h2, h3, h4⟩ := h
  refine ⟨A, c, hv, h1, h2, h3, fun hn => ?_⟩
  obtain ⟨ad, hA, hb, hc⟩ := h4 hn
  exact ⟨ad, hA, by omega, fun j u hu => (hk _ (by rw [add_block]; exact hb)).trans (hc j u hu)⟩
theorem Sl.drew (h : Sl w size v n cs) : Sl w.drew size v n cs := h
theorem Sl.below (h : Sl w size v n cs) (hb : Below w.heap.size w w') : Sl w' size v n cs := h.keep hb.size fun _ h => hb.cell h
theorem Sl.drewN (h : Sl w size v n cs) (k : Nat) : Sl (w.drewN k) size v n cs := h
theorem Sl.alloc (h : Sl w size v n cs) (o : Obj) : Sl (w.alloc o) size v n cs := h.below ((Below.refl _ _).alloc (Nat.le_refl _) o)
theorem Sl.max (h : Sl w size v n cs) : n ≤ maxLen := by
  obtain ⟨A, c, hv, h1, h2, _⟩ := h
  omega
theorem Sl.none_ (size c : Nat) (hc : c ≤ maxLen) : Sl w size (.slice none 0 c) 0 [] := ⟨none, c, rfl, Nat.zero_le _, hc, by simp, fun h => absurd h (by omega)⟩
theorem Sl.form (h : Sl w size v n cs) : ∃ A c, v = .slice A n c ∧ n ≤ c ∧ c ≤ 9223372036854775807 := by
  obtain ⟨A, c, hv, h1, h2, _⟩ := h
  exact ⟨A, c, hv, h1, h2⟩
theorem Sl.at_ {A : Option Addr} {n' c : Nat} (h : Sl w 1 (.slice A n' c) n cs) (k : Nat) (hk : k < n) : ∃ ad u, A = some ad ∧ cs[k]? = some u ∧ w.cell? (ad.add k) = some u := by
  obtain ⟨A', c', hv, h1, h2, h3, h4⟩ := h
  injection hv with e1 e2 e3
  subst e1
  obtain ⟨ad, hA, _, hc⟩ := h4 (by omega)
  have hl : k < cs.length := by omega
  exact ⟨ad, cs[k], hA, List.getElem?_eq_getElem hl, hc k _ (List.getElem?_eq_getElem hl)⟩
theorem Sl.new (w : World) (cs : Array Value) (e : TypeId) (hm : cs.size ≤ 9223372036854775807) (fr : Nat × Nat := (0, 0)) : Sl (w.alloc (.cells cs e fr)) 1 (.slice (some ⟨w.heap.size, 0, none⟩) cs.size cs.size) cs.size cs.toList := by
  refine ⟨_, _, rfl, Nat.le_refl _, hm, by simp, fun _ => ⟨_, rfl, by simp, fun j u hu => ?_⟩⟩
  rw [add_zero_row, cell_of_row _ _ _ _ _ _ (heap_alloc_new w _), ← Array.getElem?_toList]
  exact hu
theorem Sl.of_own {base : Nat} {e : TypeId} (h : w.ownsRow base e size v n cs) : Sl w size v n cs := by
  obtain ⟨h1, h2⟩ := h
  rcases h2 with ⟨rfl, rfl⟩ | ⟨g, cap, cur, rfl, hb, hg, hn, hm, hsz, ht⟩
  · have : cs = [] := List.eq_nil_of_length_eq_zero (by simpa using h1)
    subst this
    exact Sl.none_ size 0 (Nat.zero_le _)
  · have hlt : g < w.heap.size := by
      rcases Nat.lt_or_ge g w.heap.size with h | h
      · exact h
      · rw [Array.getElem?_eq_none h] at hg; cases hg
    refine ⟨_, _, rfl, hn, hm, h1, fun _ => ⟨_, rfl, hlt, ?_⟩⟩
    exact World.ownsRow.cells ⟨h1, .inr ⟨g, cap, cur, rfl, hb, hg, hn, hm, hsz, ht⟩⟩ rfl

theorem Sb.below (h : Sb w v l) (hb : Below w.heap.size w w') : Sb w' v l := Sl.below h hb
theorem Sb.max (h : Sb w v l) : l.length ≤ 9223372036854775807 := Sl.max h
theorem Sb.form (h : Sb w v l) : ∃ A c, v = .slice A l.length c ∧ l.length ≤ c ∧ c ≤ 9223372036854775807 := Sl.form h
theorem Sb.at_ {A : Option Addr} {n c : Nat} (h : Sb w (.slice A n c) l) (k : Nat) (hk : k < l.length) :
    ∃ ad, A = some ad ∧ w.cell? (ad.add k) = some (.int .u8 (B l[k])) := by
  obtain ⟨ad, u, hA, hu, hc⟩ := Sl.at_ h k hk
  rw [List.getElem?_map, List.getElem?_eq_getElem hk] at hu
  injection hu with hu
  subst hu
  exact ⟨ad, hA, hc⟩
end

theorem below_then {B0 : Nat} {w w1 w2 : World} (h : Below B0 w w1) (hB : B0 ≤ w1.heap.size) (k : Below w1.heap.size w1 w2) : Below B0 w w2 := h.trans (k.mono hB)
theorem below_drewN {B0 : Nat} {a w : World} (h : Below B0 a w) (n : Nat) : Below B0 a (w.drewN n) := ⟨h.os, h.tape, h.output, h.size, h.block⟩

/-- What a call owns from base on: a row of bytes. -/
def Ob (w : World) (base : Nat) (v : Value) (l : List UInt8) : Prop := w.ownsRow base 5 1 v l.length (l.map bv)

section
variable {w w' : World} {base e size n : Nat} {v : Value} {cs : List Value} {l : List UInt8}
theorem own_below (h : w.ownsRow base e size v n cs) (hb : Below w.heap.size w w') : w'.ownsRow base e size v n cs := by
  obtain ⟨h1, h2⟩ := h
  refine ⟨h1, ?_⟩
  rcases h2 with h2 | ⟨g, cap, cur, hv, hb', hg, h3⟩
  · exact .inl h2
  · have hlt : g < w.heap.size := by
      rcases Nat.lt_or_ge g w.heap.size with h | h
      · exact h
      · rw [Array.getElem?_eq_none h] at hg; cases hg
    exact .inr ⟨g, cap, cur, hv, hb', (hb.block g hlt).trans hg, h3⟩
theorem own_base {base' : Nat} (h : w.ownsRow base e size v n cs) (hb : base' ≤ base) : w.ownsRow base' e size v n cs := by
  obtain ⟨h1, h2⟩ := h
  refine ⟨h1, ?_⟩
  rcases h2 with h2 | ⟨g, cap, cur, hv, hb', h3⟩
  · exact .inl h2
  · exact .inr ⟨g, cap, cur, hv, Nat.le_trans hb hb', h3⟩
theorem own_ge (h : w.ownsRow base e size v n cs) : ∀ k, v.ownBlock = some k → base ≤ k := fun k hk => (h.lt k hk).1
theorem own_nil (w : World) (base e size : Nat) : w.ownsRow base e size (.slice none 0 0) 0 [] := World.ownsRow_nil w base e size
/-- A row that was just laid. -/
theorem own_new (w : World) (cs : Array Value) (e n size base : Nat) (hb : base ≤ w.heap.size) (hl : cs.size = n * size) (hm : n ≤ 9223372036854775807) :
    (w.alloc (.cells cs e)).ownsRow base e size (.slice (some ⟨w.heap.size, 0, none⟩) n n) n cs.toList :=
  ⟨by rw [Array.length_toList]; exact hl, .inr ⟨_, _, cs, rfl, hb, heap_alloc_new w _, Nat.le_refl _, hm, hl, List.take_of_length_le (by rw [Array.length_toList, hl]; exact Nat.le_refl _)⟩⟩
theorem Ob.sb (h : Ob w base v l) : Sb w v l := Sl.of_own h
theorem Ob.below (h : Ob w base v l) (hb : Below w.heap.size w w') : Ob w' base v l := own_below h hb
theorem Ob.to {base' : Nat} (h : Ob w base v l) (hb : base' ≤ base) : Ob w base' v l := own_base h hb
theorem Ob.nil (w : World) (base : Nat) : Ob w base (.slice none 0 0) [] := own_nil w base _ _
end

theorem add_add_ (a : Addr) (i j : Nat) : (a.add i).add j = a.add (i + j) := by
  unfold Addr.add
  by_cases hi : i = 0 <;> by_cases hj : j = 0 <;> simp [hi, hj, Nat.add_assoc]
theorem Sl.take {w : World} {size n c : Nat} {A : Option Addr} {cs : List Value} (h : Sl w size (.slice A n c) n cs) (m : Nat) (hm : m ≤ n) : Sl w size (.slice A m c) m (cs.take (m * size)) := by
  obtain ⟨A', c', hv, h1, h2, h3, h4⟩ := h
  injection hv with e1 e2 e3
  subst e1; subst e3
  refine ⟨_, _, rfl, by omega, h2, by rw [List.length_take, h3]; exact Nat.min_eq_left (Nat.mul_le_mul_right _ hm), fun hp => ?_⟩
  obtain ⟨ad, hA, hb, hc⟩ := h4 (by omega)
  exact ⟨ad, hA, hb, fun j u hu => hc j u (by
    rw [List.getElem?_take] at hu
    split at hu
    · exact hu
    · cases hu)⟩
theorem Sl.drop {w : World} {size n c : Nat} {A : Option Addr} {cs : List Value} (h : Sl w size (.slice A n c) n cs) (k : Nat) (hk : k ≤ n) :
    Sl w size (.slice (if c = k then A else A.map (·.add (k * size))) (n - k) (c - k)) (n - k) (cs.drop (k * size)) := by
  obtain ⟨A', c', hv, h1, h2, h3, h4⟩ := h
  injection hv with e1 e2 e3
  subst e1; subst e3
  refine ⟨_, _, rfl, by omega, by omega, by rw [List.length_drop, h3, Nat.sub_mul], fun hp => ?_⟩
  obtain ⟨ad, rfl, hb, hc⟩ := h4 (by omega)
  rw [if_neg (by omega)]
  refine ⟨ad.add (k * size), rfl, by rw [add_block]; exact hb, fun j u hu => ?_⟩
  rw [add_add_]
  exact hc _ u (by rw [← hu, List.getElem?_drop])
theorem Sb.take {w : World} {c : Nat} {A : Option Addr} {l : List UInt8} (h : Sb w (.slice A l.length c) l) (m : Nat) (hm : m ≤ l.length) : Sb w (.slice A m c) (l.take m) := by
  have := Sl.take h m hm
  unfold Sb
  rw [List.length_take, Nat.min_eq_left hm, List.map_take]
  simpa using this
theorem Sb.drop {w : World} {c : Nat} {A : Option Addr} {l : List UInt8} (h : Sb w (.slice A l.length c) l) (k : Nat) (hk : k ≤ l.length) :
    Sb w (.slice (if c = k then A else A.map (·.add k)) (l.length - k) (c - k)) (l.drop k) := by
  have := Sl.drop h k hk
  unfold Sb
  rw [List.length_drop, List.map_drop]
  simpa using this

theorem Ob.at_ {w : World} {base n c : Nat} {A : Option Addr} {l : List UInt8} (h : Ob w base (.slice A n c) l) (k : Nat) (hk : k < l.length) :
    ∃ g, A = some ⟨g, 0, none⟩ ∧ base ≤ g ∧ w.frozen? ⟨g, k, none⟩ = false ∧ w.cell? ⟨g, k, none⟩ = some (.int .u8 (B (l.getD k 0))) := by
  have hcells : ∀ g, (Value.slice A n c).ownBlock = some g → _ := fun g hg => World.ownsRow.cells h (g := g) hg
  obtain ⟨h1, h2⟩ := h
  rcases h2 with ⟨h2, h3⟩ | ⟨g, cap, cur, hv, hb, hg, h3⟩
  · omega
  · injection hv with e1 e2 e3
    subst e1
    refine ⟨g, rfl, hb, by simp [World.frozen?, hg], ?_⟩
    have := hcells g rfl k (.int .u8 (B (l.getD k 0))) (by rw [List.getElem?_map, List.getElem?_eq_getElem hk]; simp [bv, List.getD_eq_getElem?_getD, hk])
    rwa [add_zero_row] at this

theorem Ob.set_ {w : World} {base n c g : Nat} {l : List UInt8} (h : Ob w base (.slice (some ⟨g, 0, none⟩) n c) l) (j : Nat) (y : UInt8) :
    Ob (w.setCell ⟨g, j, none⟩ (.int .u8 (B y))) base (.slice (some ⟨g, 0, none⟩) n c) (l.set j y) := by
  have hn : n = l.length := by
    rcases h.2 with ⟨h2, h3⟩ | ⟨g, cap, cur, hv, _⟩
    · cases h2
    · injection hv
  subst hn
  have := (World.ownsRow.stored h j (bv y)).1
  unfold Ob
  rw [List.length_set, List.map_set]
  exact this

/-- append onto a row of the call's own, whatever the source (nil, empty or not): the run's equation. -/
theorem run_app {P : Program} (w : World) (base : Nat) (t ty e : TypeId) (z : Value) (size bytes : Nat) (ht : P.underlying t = some (.slice e)) (hinfo : (P.info? e).map (fun i => (i.zero, i.size, i.bytes)) = some (some z, size, bytes))
    (hzs : z.cells.size = size) (hsz : 0 < size) (v : Value) (n : Nat) (xs : List Value) (hown : w.ownsRow base e size v n xs)
    (u : Value) (m : Nat) (news : List Value) (hr : Sl w size u m news) (h1 : ∀ u ∈ news, u.oneCell' = true)
    (hbytes : (n + m) * bytes ≤ 140737488355328) (h63 : n + m ≤ maxLen) (hbase : base ≤ w.heap.size) :
    ∃ v' w', (Builtin.append_ #[t, t] ty #[v, u]).run P w = .ok v' w' ∧ w'.ownsRow base e size v' (n + m) (xs ++ news) ∧ w.grownBy w' v.ownBlock ∧ (v'.ownBlock = v.ownBlock ∨ v'.ownBlock = some w.heap.size) := by
  obtain ⟨i, hi, hz, hsize, hby⟩ := info_parts hinfo
  obtain ⟨A, c, rfl, hmc, hc, hlen, hcells⟩ := hr
  cases A with
  | none =>
    have hm : m = 0 := by
      rcases Nat.eq_zero_or_pos m with h0 | h0
      · exact h0
      · obtain ⟨_, h, _⟩ := hcells h0; cases h
    subst hm
    have hn : news = [] := List.eq_nil_of_length_eq_zero (by simpa using hlen)
    subst hn
    refine ⟨v, w, ?_, by simpa using hown, World.grownBy.refl w _, .inl rfl⟩
    rcases hown.2 with ⟨rfl, rfl⟩ | ⟨g, cap, cur, rfl, _, _, hnc, _⟩
    · simp [Builtin.append_, run_underlying ht, sizeOf, typeInfo, hi, Builtin.lenOf, Builtin.firstCells]
    · simp [Builtin.append_, run_underlying ht, sizeOf, typeInfo, hi, Builtin.lenOf, Builtin.firstCells, hnc, storeCells]
  | some ad =>
    have hcs : ∀ j u, news[j]? = some u → w.cell? (ad.add j) = some u := by
      intro j u hu
      rcases Nat.eq_zero_or_pos m with h0 | h0
      · subst h0
        have hn : news = [] := List.eq_nil_of_length_eq_zero (by simpa using hlen)
        subst hn
        simp at hu
      · obtain ⟨ad', h, _, hc⟩ := hcells h0
        injection h with h
        exact h ▸ hc j u hu
    obtain ⟨v', w', hrun, h2, h3, _, h5⟩ := run_append_own_at (P := P) w base t ty e i z size bytes ht hi hz hsize hby hzs hsz v n xs hown ad m c news hlen hcs h1 h63 hbytes hbase
    exact ⟨v', w', hrun, h2, h3, h5⟩

/-- append at the operation: onto a row of the call's own, whatever the source (nil, empty or not). -/
theorem wpList_app {P : Program} (w : World) {ops : Array Oper} {rest : List Oper} {o : Oper} {a : Act} {Q : Exit → Act → World → Prop} (hw : Region.wanted o (yielded ops a.tmps) = true) (s x : Operand) (t : TypeId)
    (ho : o.op = .call { callee := .builtin .append, args := #[s, x], argTypes := #[t, t] })
    (base : Nat) (e : TypeId) (z : Value) (size bytes : Nat) (ht : P.underlying t = some (.slice e)) (hinfo : (P.info? e).map (fun i => (i.zero, i.size, i.bytes)) = some (some z, size, bytes))
    (hzs : z.cells.size = size) (hsz : 0 < size)
    (v : Value) (n : Nat) (xs : List Value) (hs : a.eval s = v) (hown : w.ownsRow base e size v n xs)
    (u : Value) (m : Nat) (news : List Value) (hx : a.eval x = u) (hr : Sl w size u m news) (h1 : ∀ u ∈ news, u.oneCell' = true)
    (hbytes : (n + m) * bytes ≤ 140737488355328) (h63 : n + m ≤ maxLen) (hbase : base ≤ w.heap.size)
    (h : ∀ v' w', w'.ownsRow base e size v' (n + m) (xs ++ news) → w.grownBy w' v.ownBlock → (v'.ownBlock = v.ownBlock ∨ v'.ownBlock = some w.heap.size) → wpList P ops Q rest (a.put o.dst v') w') :
    wpList P ops Q (o :: rest) a w := by
  refine wpList_step fun K hK => ?_
  rw [if_pos hw]
  obtain ⟨v', w', hrun, h2, h3, h4⟩ := run_app (P := P) w base t o.type e z size bytes ht hinfo hzs hsz v n xs hown u m news hr h1 hbytes h63 hbase
  unfold Oper.wp execOp
  simp only [ho, resolve, invoke, builtin, Sem.run_bind, Sem.run_pure, Result.andThen_ok, List.map_toArray, List.map_cons, List.map_nil, hs, hx, hrun]
  exact hK _ _ (h v' w' h2 h3 h4)

/-- Below, behind an append onto a row of one's own. -/
theorem below_app {B0 : Nat} {w w1 w2 : World} (h : Below B0 w w1) (hB : B0 ≤ w1.heap.size) {row : Option Nat} (hg : w1.grownBy w2 row) (hr : ∀ k, row = some k → B0 ≤ k) : Below B0 w w2 := h.grown hg hB hr

/-- What is handed back is bytes in memory of the call's own; of what was nothing has turned. -/
def RetB (w : World) (l : List UInt8) (e : Ending) (w' : World) : Prop := ∃ u, e = .returned u ∧ Ob w' w.heap.size u l ∧ Below w.heap.size w w'
/-- Bytes, and an error's number. -/
def RetBE (w : World) (l : List UInt8) (n : Int) (e : Ending) (w' : World) : Prop := ∃ u, e = .returned (.tuple #[u, .int .i64 n]) ∧ Ob w' w.heap.size u l ∧ Below w.heap.size w w'
/-- A plain value; of what was nothing has turned. -/
def RetV (w : World) (v : Value) (e : Ending) (w' : World) : Prop := e = .returned v ∧ Below w.heap.size w w'

theorem Sb.new (w : World) (e : TypeId) (l : List UInt8) (cs : Array Value) (hc : cs.toList = l.map bv) (hl : l.length ≤ 1000000) (n : Nat) (hn : n = l.length) (fr : Nat × Nat := (0, 0)) : Sb (w.alloc (.cells cs e fr)) (.slice (some ⟨w.heap.size, 0, none⟩) n n) l := by
  have hs : cs.size = l.length := by rw [← Array.length_toList, hc, List.length_map]
  subst hn
  have := Sl.new w cs e (by omega) fr
  rw [hs, hc] at this
  exact this

/-- Memory grows: one step behind the other. -/
theorem gthen {a b c : World} (h : Below a.heap.size a b) (k : Below b.heap.size b c) : Below a.heap.size a c := below_then h h.size k
end Go.Proofs.Ytonllhjmoenckaa
