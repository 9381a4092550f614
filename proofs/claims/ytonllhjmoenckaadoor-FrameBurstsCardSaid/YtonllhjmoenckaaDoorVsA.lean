/- The words of a theory of states as pure values: a slice is its list, what stands behind a pointer is an object with a number of its own; how the memory's blocks bear them; and that what is borne stays borne where memory changes at the own objects alone. No program stands here. -/
import Derived.WalkKit
import Derived.Below
import Derived.Orders
namespace Go.Proofs.YtonllhjmoenckaaDoor
open Go Go.RowKit
set_option linter.unusedVariables false
set_option linter.unusedSimpArgs false

/-- What stands around: cells that belong to others; blocks of which it is known what they hold. -/
structure Fr where
  shut : Nat → Nat → Prop
  known : Nat → Obj → Prop
variable {F : Fr}

/-- Data: one scalar, or a slice told by its elements, each with k cells. -/
inductive D where
  | sc (x : Value)
  | sl (k : Nat) (es : List (List D))
  deriving Inhabited

/-- Values: data; a struct or an array by its cells; results; a slice that may be appended to (t: the right to its tail); one that has no room; a pointer into an object; a pointer to an element of a slice told by its list; a slice of an object's cells; a map; a function. -/
inductive V where
  | d (x : D)
  | agg (cs : List V)
  | tup (vs : List V)
  | own (k : Nat) (es : List (List D)) (t : Nat)
  | full (k : Nat) (es : List (List D))
  | ptr (o off : Nat)
  | ep (cells : List D) (off : Nat)
  | hs (g : Bool) (k o off n : Nat)
  | mp (o : Nat)
  | fn (f : Nat) (cap : List V)
  | any
  | ub
  deriving Inhabited

abbrev V.undef : V := .tup []
abbrev V.sc (x : Value) : V := .d (.sc x)
abbrev V.sl (k : Nat) (es : List (List D)) : V := .d (.sl k es)
abbrev V.nilsl : V := .d (.sc (.slice none 0 0))

/-- Where an object lies: in a block of its own; a slice's tail from cell e of block b on; nowhere (what has no room has no tail); no more; not yet. -/
inductive Pl where
  | obj (b n : Nat)
  | tail (b e : Nat)
  | free
  | dead
  | yet
  deriving Inhabited

/-- A map: the stamp for its next entry; its entries in the order in which they came. -/
structure ME where
  born : Nat
  key : Value
  val : V
structure GM where
  c : Nat
  es : List ME
def GM.mapV (f : V → V) (m : GM) : GM := ⟨m.c, m.es.map fun e => ⟨e.born, e.key, f e.val⟩⟩

inductive Ho where
  | cells (cs : List V)
  | map (m : GM)
  | tail
  | dead
  | yet
  deriving Inhabited

/-- A number that has been given to an object. -/
def lv (φ : List Pl) (t : Nat) : Prop := ∃ p, φ[t]? = some p ∧ p ≠ .yet

/-- Values without an address. -/
def flat : Value → Bool
  | .bool _ | .int _ _ | .string _ | .pointer none | .slice none 0 0 | .map none | .nilFunc | .nilIface => true
  | _ => false

/-- The cells that none of the own objects may change; F: cells that belong to others. -/
def prot (F : Fr) (φ : List Pl) (w : World) (b o : Nat) : Prop :=
  b < w.heap.size ∧ (∀ {z : Nat} (i : Nat), φ[i]? ≠ some (Pl.obj b z)) ∧ (∀ (i e : Nat), φ[i]? = some (Pl.tail b e) → o < e) ∧ ¬ F.shut b o
def cellP (F : Fr) (φ : List Pl) (w : World) (b o : Nat) (v : Value) : Prop := prot F φ w b o ∧ w.cell? ⟨b, o, none⟩ = some v

inductive DenD (F : Fr) (φ : List Pl) (w : World) : Value → D → Prop
  | sc {x : Value} (h : flat x = true) : DenD F φ w x (.sc x)
  | nil {k : Nat} {a : Option Addr} : DenD F φ w (.slice a 0 0) (.sl k [])
  | sl {k n cap b off : Nat} {es : List (List D)} (c : Nat → Nat → Value) (hn : es.length = n) (hcap : n ≤ cap ∧ cap ≤ 9223372036854775807) (hk : ∀ (i : Nat) (e : List D), es[i]? = some e → e.length = k)
      (hc : ∀ i j, i < n → j < k → cellP F φ w b (off + i * k + j) (c i j))
      (hd : ∀ (i : Nat) (e : List D) (j : Nat) (x : D), es[i]? = some e → e[j]? = some x → DenD F φ w (c i j) x) :
      DenD F φ w (.slice (some ⟨b, off, none⟩) n cap) (.sl k es)

inductive Den (F : Fr) (φ : List Pl) (w : World) : Value → V → Prop
  | d {r : Value} {x : D} (h : DenD F φ w r x) : Den F φ w r (.d x)
  | agg {rs : Array Value} {cs : List V} (hs : rs.size = cs.length) (h1 : ∀ (i : Nat) (r : Value), rs[i]? = some r → r.oneCell' = true)
      (h : ∀ (i : Nat) (r : Value) (v : V), rs[i]? = some r → cs[i]? = some v → Den F φ w r v) : Den F φ w (.agg rs) (.agg cs)
  | tup {rs : Array Value} {cs : List V} (hs : rs.size = cs.length)
      (h : ∀ (i : Nat) (r : Value) (v : V), rs[i]? = some r → cs[i]? = some v → Den F φ w r v) : Den F φ w (.tuple rs) (.tup cs)
  | own {k t n cap b : Nat} {es : List (List D)} (ht : lv φ t) (h : DenD F φ w (.slice (some ⟨b, 0, none⟩) n cap) (.sl k es)) (hn : es.length = n)
      (hp : ∀ b' e, φ[t]? = some (Pl.tail b' e) → b' = b ∧ e = n * k ∧ ∃ c T, w.heap[b]? = some (.cells c T (0, 0)) ∧ c.size = cap * k)
      (hf : φ[t]? = some Pl.free → cap = n) (ho : ∀ {z : Nat} b', φ[t]? ≠ some (Pl.obj b' z)) : Den F φ w (.slice (some ⟨b, 0, none⟩) n cap) (.own k es t)
  | ownEx {k t n : Nat} {a : Option Addr} {es : List (List D)} (ht : lv φ t) (hh : φ[t]? = some Pl.free ∨ φ[t]? = some Pl.dead) (h : DenD F φ w (.slice a n n) (.sl k es)) (hn : es.length = n) : Den F φ w (.slice a n n) (.own k es t)
  | full {k n : Nat} {a : Option Addr} {es : List (List D)} (h : DenD F φ w (.slice a n n) (.sl k es)) (hn : es.length = n) : Den F φ w (.slice a n n) (.full k es)
  | ptr {o off b : Nat} (ho : lv φ o) (h : ∀ {z : Nat} b', φ[o]? = some (Pl.obj b' z) → b' = b) : Den F φ w (.pointer (some ⟨b, off, none⟩)) (.ptr o off)
  | ep {cells : List D} {off b at_ a : Nat} (c : Nat → Value) (ha : a = at_ + off) (hc : ∀ j, j < cells.length → cellP F φ w b (at_ + j) (c j)) (hd : ∀ (j : Nat) (x : D), cells[j]? = some x → DenD F φ w (c j) x) :
      Den F φ w (.pointer (some ⟨b, a, none⟩)) (.ep cells off)
  | hs {g : Bool} {k o off n cap b : Nat} (ho : lv φ o) (h : ∀ {z : Nat} b', φ[o]? = some (Pl.obj b' z) → b' = b ∧ (g = true → off + cap * k ≤ z)) (hcap : n ≤ cap ∧ cap ≤ 9223372036854775807) (hf : g = true → φ[o]? ≠ some Pl.free) : Den F φ w (.slice (some ⟨b, off, none⟩) n cap) (.hs g k o off n)
  | hsE {k o off cap : Nat} {a : Option Addr} (ho : lv φ o) (ha : a = none → cap = 0) (hcap : cap ≤ 9223372036854775807) (hsp : ∀ x, a = some x → x.spot = none) : Den F φ w (.slice a 0 cap) (.hs false k o off 0)
  | hsN {k o off : Nat} {a : Option Addr} (ho : lv φ o) (h : ∀ {z : Nat} b', φ[o]? ≠ some (Pl.obj b' z)) : Den F φ w (.slice a 0 0) (.hs true k o off 0)
  | mp {o b : Nat} (ho : lv φ o) (h : ∀ {z : Nat} b', φ[o]? = some (Pl.obj b' z) → b' = b) : Den F φ w (.map (some b)) (.mp o)
  | fn {f : Nat} {rs : Array Value} {cs : List V} (hs : rs.size = cs.length)
      (h : ∀ (i : Nat) (r : Value) (v : V), rs[i]? = some r → cs[i]? = some v → Den F φ w r v) : Den F φ w (.func (.func f) #[] rs) (.fn f cs)
  | any {r : Value} : Den F φ w r .any
  | ub {b : Bool} : Den F φ w (.bool b) .ub

/-- A block of cells, none of them a string's. -/
def rowAt (w : World) (b : Nat) (arr : Array Value) : Prop := ∃ T, w.heap[b]? = some (.cells arr T (0, 0))

def ObOk (F : Fr) (φ : List Pl) (w : World) : Pl → Ho → Prop
  | .obj b z, .cells cs => ∃ arr, rowAt w b arr ∧ arr.size = z ∧ cs.length ≤ arr.size ∧ ∀ (j : Nat) (v : V), cs[j]? = some v → ∃ r, arr[j]? = some r ∧ r.oneCell' = true ∧ Den F φ w r v
  | .obj b _, .map g => ∃ (ents : Array MapEntry) (clock : Nat), w.heap[b]? = some (.map ents clock) ∧ (clock = g.c ∧ ents.size = g.es.length) ∧ ∀ (j : Nat) (m : MapEntry) (e : ME), ents[j]? = some m → g.es[j]? = some e → (m.key = e.key ∧ m.born = e.born) ∧ Den F φ w m.val e.val
  | .tail b e, .tail => ∃ arr, rowAt w b arr ∧ e ≤ arr.size
  | .free, .tail => True
  | .free, .cells cs => cs = []
  | .dead, .dead => True
  | .yet, .yet => True
  | _, _ => False

def Pl.blk : Pl → Option Nat
  | .obj b _ => some b
  | .tail b _ => some b
  | _ => none

structure Inv (F : Fr) (φ : List Pl) (w : World) (h : List Ho) : Prop where
  len : φ.length = h.length
  ok : ∀ (i : Nat) (p : Pl) (o : Ho), φ[i]? = some p → h[i]? = some o → ObOk F φ w p o
  apart : ∀ (i j : Nat) (p q : Pl) (b : Nat), φ[i]? = some p → φ[j]? = some q → p.blk = some b → q.blk = some b → i = j
  frB : ∀ b o, F.shut b o → b < w.heap.size
  frO : ∀ (i : Nat) (p : Pl) (b o : Nat), φ[i]? = some p → p.blk = some b → ¬ F.shut b o
  frK : ∀ (b : Nat) (x : Obj), F.known b x → w.heap[b]? = some x ∧ ∀ (i : Nat) (p : Pl), φ[i]? = some p → p.blk ≠ some b

/-- The streams are as they were. -/
def Still (w w' : World) : Prop := w'.os = w.os ∧ w'.tape = w.tape ∧ w'.output = w.output

/-- What memory w became, and where the objects lie now: nothing has changed but at the own objects. -/
structure Ext (φ : List Pl) (w : World) (φ' : List Pl) (w' : World) : Prop where
  size : w.heap.size ≤ w'.heap.size
  len : φ.length ≤ φ'.length
  old : ∀ i, lv φ i → φ'[i]? = φ[i]? ∨ φ'[i]? = some Pl.dead
  keep : ∀ b, b < w.heap.size → (∀ (i : Nat) (p : Pl), φ[i]? = some p → p.blk ≠ some b) → w'.heap[b]? = w.heap[b]?
  tail : ∀ (i b e : Nat), φ[i]? = some (Pl.tail b e) → ∀ c T fr, w.heap[b]? = some (Obj.cells c T fr) → ∃ c', w'.heap[b]? = some (Obj.cells c' T fr) ∧ c'.size = c.size ∧ ∀ o : Nat, o < e → c'[o]? = c[o]?
  objs : ∀ {z : Nat} (i b : Nat), φ'[i]? = some (Pl.obj b z) → b < w.heap.size → ∃ j z' : Nat, φ[j]? = some (Pl.obj b z')
  tails : ∀ (i b e' : Nat), φ'[i]? = some (Pl.tail b e') → b < w.heap.size → (∃ (j e : Nat), φ[j]? = some (Pl.tail b e) ∧ e ≤ e') ∨ ∃ j z : Nat, φ[j]? = some (Pl.obj b z)
  io : Still w w'

theorem Ext.refl (φ : List Pl) (w : World) : Ext φ w φ w :=
  ⟨Nat.le_refl _, Nat.le_refl _, fun _ _ => .inl rfl, fun _ _ _ => rfl, fun _ _ _ _ c T fr hc => ⟨c, hc, rfl, fun _ _ => rfl⟩, fun i b h _ => ⟨i, _, h⟩, fun i b e h _ => .inl ⟨i, e, h, Nat.le_refl _⟩, ⟨rfl, rfl, rfl⟩⟩

theorem prot_ext {φ φ' : List Pl} {w w' : World} (h : Ext φ w φ' w') {b o : Nat} (hp : prot F φ w b o) : prot F φ' w' b o := by
  obtain ⟨h1, h2, h3, h4⟩ := hp
  refine ⟨Nat.lt_of_lt_of_le h1 h.size, fun i hi => ?_, fun i e hi => ?_, h4⟩
  · obtain ⟨j, _, hj⟩ := h.objs i b hi h1
    exact h2 j hj
  · rcases h.tails i b e hi h1 with ⟨j, e', hj, hle⟩ | ⟨j, _, hj⟩
    · exact Nat.lt_of_lt_of_le (h3 j e' hj) hle
    · exact absurd hj (h2 j)

theorem cell_of (w : World) (b o : Nat) (v : Value) : w.cell? ⟨b, o, none⟩ = some v ↔ ∃ c T fr, w.heap[b]? = some (Obj.cells c T fr) ∧ c[o]? = some v := by
  unfold World.cell?
  cases h : w.heap[b]? with
  | none => simp
  | some x => cases x <;> simp

theorem cellP_ext {φ φ' : List Pl} {w w' : World} (h : Ext φ w φ' w') {b o : Nat} {v : Value} (hp : cellP F φ w b o v) : cellP F φ' w' b o v := by
  refine ⟨prot_ext h hp.1, ?_⟩
  obtain ⟨⟨h1, h2, h3, _⟩, hc⟩ := hp
  obtain ⟨c, T, fr, hb, ho⟩ := (cell_of w b o v).1 hc
  by_cases ht : ∃ (i e : Nat), φ[i]? = some (Pl.tail b e)
  · obtain ⟨i, e, hi⟩ := ht
    obtain ⟨c', hb', _, hs⟩ := h.tail i b e hi c T fr hb
    exact (cell_of w' b o v).2 ⟨c', T, fr, hb', by rw [hs o (h3 i e hi), ho]⟩
  · have hk := h.keep b h1 fun i p hi hp => by
      cases p with
      | obj b' z => simp only [Pl.blk, Option.some.injEq] at hp; subst hp; exact h2 i hi
      | tail b' e => simp only [Pl.blk, Option.some.injEq] at hp; subst hp; exact ht ⟨i, e, hi⟩
      | free => simp [Pl.blk] at hp
      | dead => simp [Pl.blk] at hp
      | yet => simp [Pl.blk] at hp
    exact (cell_of w' b o v).2 ⟨c, T, fr, by rw [hk, hb], ho⟩

theorem DenD.ext {φ φ' : List Pl} {w w' : World} (h : Ext φ w φ' w') {r : Value} {x : D} (hd : DenD F φ w r x) : DenD F φ' w' r x := by
  induction hd with
  | sc hx => exact .sc hx
  | nil => exact .nil
  | sl c hn hcap hk hc _ ih => exact .sl c hn hcap hk (fun i j hi hj => cellP_ext h (hc i j hi hj)) ih

theorem old_some {φ φ' : List Pl} {w w' : World} (h : Ext φ w φ' w') {t : Nat} (ht : lv φ t) {p : Pl} (hp : φ'[t]? = some p) (hne : p ≠ Pl.dead) : φ[t]? = some p := by
  rcases h.old t ht with e | e
  · rw [← e]; exact hp
  · rw [e] at hp; cases hp; exact absurd rfl hne

theorem lv_ext {φ φ' : List Pl} {w w' : World} (h : Ext φ w φ' w') {t : Nat} (ht : lv φ t) : lv φ' t := by
  rcases h.old t ht with e | e
  · obtain ⟨p, h1, h2⟩ := ht
    exact ⟨p, by rw [e]; exact h1, h2⟩
  · exact ⟨_, e, by simp⟩

theorem Den.ext {φ φ' : List Pl} {w w' : World} (h : Ext φ w φ' w') {r : Value} {v : V} (hd : Den F φ w r v) : Den F φ' w' r v := by
  have hb : ∀ {o : Nat} {C : Nat → Nat → Prop}, lv φ o → (∀ {z : Nat} b', φ[o]? = some (Pl.obj b' z) → C b' z) → ∀ {z : Nat} b', φ'[o]? = some (Pl.obj b' z) → C b' z := fun ho hh _ b' hb' => hh b' (old_some h ho hb' (by simp))
  induction hd with
  | d hx => exact .d (hx.ext h)
  | agg hs h1 _ ih => exact .agg hs h1 ih
  | tup hs _ ih => exact .tup hs ih
  | @own k t n cap b es ht hd hn hp hf ho =>
    refine .own (lv_ext h ht) (hd.ext h) hn (fun b' e hb' => ?_) (fun hf' => hf (old_some h ht hf' (by simp))) (fun b' hb' => ho b' (old_some h ht hb' (by simp)))
    have h0 := old_some h ht hb' (by simp)
    obtain ⟨e1, e2, c, T, h3, h4⟩ := hp b' e h0
    subst e1
    obtain ⟨c2, hc2, hsz, _⟩ := h.tail t b' e h0 c T _ h3
    exact ⟨rfl, e2, c2, T, hc2, by rw [hsz]; exact h4⟩
  | ownEx ht hh hd hn =>
    refine .ownEx (lv_ext h ht) ?_ (hd.ext h) hn
    rcases h.old _ ht with e | e
    · rw [e]; exact hh
    · exact .inr e
  | full hd hn => exact .full (hd.ext h) hn
  | ptr ho hh => exact .ptr (lv_ext h ho) (hb (C := fun b' _ => b' = _) ho hh)
  | ep c ha hc hd => exact .ep c ha (fun j hj => cellP_ext h (hc j hj)) (fun j x hx => (hd j x hx).ext h)
  | hs ho hh hcap hf => exact .hs (lv_ext h ho) (hb (C := fun b' z => b' = _ ∧ (_ → _ ≤ z)) ho hh) hcap (fun hg hf' => hf hg (old_some h ho hf' (by simp)))
  | hsE ho ha hc hsp => exact .hsE (lv_ext h ho) ha hc hsp
  | hsN ho hh => exact .hsN (lv_ext h ho) (hb (C := fun _ _ => False) ho hh)
  | any => exact .any
  | ub => exact .ub
  | mp ho hh => exact .mp (lv_ext h ho) (hb (C := fun b' _ => b' = _) ho hh)
  | fn hs _ ih => exact .fn hs ih

theorem Inv.uniq {φ : List Pl} {w : World} {h : List Ho} (hi : Inv F φ w h) {i j b e e' : Nat} (h1 : φ[i]? = some (Pl.tail b e)) (h2 : φ[j]? = some (Pl.tail b e')) : e = e' := by
  have := hi.apart i j _ _ b h1 h2 rfl rfl
  subst this
  rw [h1] at h2; cases h2; rfl

theorem Ext.trans {φ φ1 φ2 : List Pl} {w w1 w2 : World} {h : List Ho} (hi : Inv F φ w h) (a : Ext φ w φ1 w1) (b : Ext φ1 w1 φ2 w2) : Ext φ w φ2 w2 where
  size := Nat.le_trans a.size b.size
  io := ⟨b.io.1.trans a.io.1, b.io.2.1.trans a.io.2.1, b.io.2.2.trans a.io.2.2⟩
  len := Nat.le_trans a.len b.len
  old i hlt := by
    rcases a.old i hlt with e | e
    · rcases b.old i (lv_ext a hlt) with e' | e'
      · exact .inl (by rw [e', e])
      · exact .inr e'
    · rcases b.old i (lv_ext a hlt) with e' | e'
      · exact .inr (by rw [e', e])
      · exact .inr e'
  keep bl hlt hno := by
    rw [← a.keep bl hlt hno]
    refine b.keep bl (Nat.lt_of_lt_of_le hlt a.size) fun i p hp hb => ?_
    cases p with
    | obj b' z =>
      cases hb
      obtain ⟨j, _, hj⟩ := a.objs i bl hp hlt
      exact hno j _ hj rfl
    | tail b' e =>
      cases hb
      rcases a.tails i bl e hp hlt with ⟨j, e', hj, _⟩ | ⟨j, _, hj⟩ <;> exact hno j _ hj rfl
    | free => cases hb
    | dead => cases hb
    | yet => cases hb
  tail i bl e hie c T fr hc := by
    have hlt : bl < w.heap.size := by
      rcases Nat.lt_or_ge bl w.heap.size with h | h
      · exact h
      · rw [Array.getElem?_eq_none h] at hc; cases hc
    obtain ⟨c1, hc1, hs1, hk1⟩ := a.tail i bl e hie c T fr hc
    by_cases ht : ∃ (j e1 : Nat), φ1[j]? = some (Pl.tail bl e1)
    · obtain ⟨j, e1, hj⟩ := ht
      obtain ⟨c2, hc2, hs2, hk2⟩ := b.tail j bl e1 hj c1 T fr hc1
      have hle : e ≤ e1 := by
        rcases a.tails j bl e1 hj hlt with ⟨j', e', hj', hle⟩ | ⟨j', _, hj'⟩
        · rw [hi.uniq hie hj']; exact hle
        · have := hi.apart i j' _ _ bl hie hj' rfl rfl
          subst this; rw [hie] at hj'; cases hj'
      exact ⟨c2, hc2, by rw [hs2, hs1], fun o ho => by rw [hk2 o (by omega), hk1 o ho]⟩
    · have hk := b.keep bl (Nat.lt_of_lt_of_le hlt a.size) fun j p hp hb => by
        cases p with
        | obj b' z =>
          cases hb
          obtain ⟨j', _, hj'⟩ := a.objs j bl hp hlt
          have := hi.apart i j' _ _ bl hie hj' rfl rfl
          subst this; rw [hie] at hj'; cases hj'
        | tail b' e1 => cases hb; exact ht ⟨j, e1, hp⟩
        | free => cases hb
        | dead => cases hb
        | yet => cases hb
      exact ⟨c1, by rw [hk]; exact hc1, hs1, hk1⟩
  objs i bl hp hlt := by
    obtain ⟨j, _, hj⟩ := b.objs i bl hp (Nat.lt_of_lt_of_le hlt a.size)
    exact a.objs j bl hj hlt
  tails i bl e hp hlt := by
    rcases b.tails i bl e hp (Nat.lt_of_lt_of_le hlt a.size) with ⟨j, e1, hj, hle⟩ | ⟨j, _, hj⟩
    · rcases a.tails j bl e1 hj hlt with ⟨j', e', hj', hle'⟩ | h
      · exact .inl ⟨j', e', hj', by omega⟩
      · exact .inr h
    · exact .inr (a.objs j bl hj hlt)

theorem ObOk.ext {φ φ' : List Pl} {w w' : World} (he : Ext φ w φ' w') {p : Pl} {o : Ho} (h : ObOk F φ w p o) (hb : ∀ b, p.blk = some b → w'.heap[b]? = w.heap[b]?) : ObOk F φ' w' p o := by
  cases p <;> cases o <;> simp only [ObOk, rowAt] at h ⊢
  · obtain ⟨arr, ⟨T, hr⟩, hz, hl, hd⟩ := h
    exact ⟨arr, ⟨T, by rw [hb _ rfl]; exact hr⟩, hz, hl, fun j v hv => let ⟨r, h1, h2, h3⟩ := hd j v hv; ⟨r, h1, h2, h3.ext he⟩⟩
  · obtain ⟨ents, clock, hr, hl, hd⟩ := h
    exact ⟨ents, clock, by rw [hb _ rfl]; exact hr, hl, fun j m e hm he' => ⟨(hd j m e hm he').1, ((hd j m e hm he').2).ext he⟩⟩
  · obtain ⟨arr, ⟨T, hr⟩, hl⟩ := h
    exact ⟨arr, ⟨T, by rw [hb _ rfl]; exact hr⟩, hl⟩
  · exact h

/-- Every entry as it was, or shown anew. -/
theorem Inv.step {φ φ' : List Pl} {w w' : World} {h h' : List Ho} (hi : Inv F φ w h) (he : Ext φ w φ' w') (hl : φ'.length = h'.length)
    (hok : ∀ (i : Nat) (p : Pl) (o : Ho), φ'[i]? = some p → h'[i]? = some o → (φ[i]? = some p ∧ h[i]? = some o ∧ ∀ b, p.blk = some b → w'.heap[b]? = w.heap[b]?) ∨ ObOk F φ' w' p o)
    (hap : ∀ (i j : Nat) (p q : Pl) (b : Nat), φ'[i]? = some p → φ'[j]? = some q → p.blk = some b → q.blk = some b → i = j)
    (hfr : ∀ (i : Nat) (p : Pl) (b : Nat), φ'[i]? = some p → p.blk = some b → (∃ (j : Nat) (q : Pl), φ[j]? = some q ∧ q.blk = some b) ∨ w.heap.size ≤ b) : Inv F φ' w' h' where
  frB b o hF := Nat.lt_of_lt_of_le (hi.frB b o hF) he.size
  frO i p b o hp hb hF := by
    rcases hfr i p b hp hb with ⟨j, q, h1, h2⟩ | h1
    · exact hi.frO j q b o h1 h2 hF
    · have := hi.frB b o hF; omega
  frK b x hx := by
    obtain ⟨h1, h2⟩ := hi.frK b x hx
    have hlt : b < w.heap.size := by
      rcases Nat.lt_or_ge b w.heap.size with h | h
      · exact h
      · rw [Array.getElem?_eq_none h] at h1; cases h1
    refine ⟨by rw [he.keep b hlt h2]; exact h1, fun i p hp hb => ?_⟩
    rcases hfr i p b hp hb with ⟨j, q, h3, h4⟩ | h3
    · exact h2 j q h3 h4
    · omega
  len := hl
  ok i p o hp ho := by
    rcases hok i p o hp ho with ⟨h1, h2, h3⟩ | h
    · exact (hi.ok i p o h1 h2).ext he h3
    · exact h
  apart := hap

theorem Inv.lt {φ : List Pl} {w : World} {h : List Ho} (hi : Inv F φ w h) {i : Nat} {p : Pl} {b : Nat} (hp : φ[i]? = some p) (hb : p.blk = some b) : b < w.heap.size := by
  have hlt : i < φ.length := by
    rcases Nat.lt_or_ge i φ.length with h | h
    · exact h
    · rw [List.getElem?_eq_none h] at hp; cases hp
  have ho : ∃ o, h[i]? = some o := ⟨h[i]'(by rw [← hi.len]; exact hlt), List.getElem?_eq_getElem _⟩
  obtain ⟨o, ho⟩ := ho
  have := hi.ok i p o hp ho
  have hx : ∀ x : Obj, w.heap[b]? = some x → b < w.heap.size := fun x hx => by
    rcases Nat.lt_or_ge b w.heap.size with h | h
    · exact h
    · rw [Array.getElem?_eq_none h] at hx; cases hx
  cases p <;> cases o <;> simp only [ObOk, rowAt, Pl.blk, Option.some.injEq, reduceCtorEq] at this hb <;> subst hb
  · obtain ⟨arr, ⟨T, hr⟩, _⟩ := this; exact hx _ hr
  · obtain ⟨ents, clock, hr, _⟩ := this; exact hx _ hr
  · obtain ⟨arr, ⟨T, hr⟩, _⟩ := this; exact hx _ hr

/-- Memory has got blocks of no object's. -/
theorem Ext.more {φ : List Pl} {w w' : World} (hs : w.heap.size ≤ w'.heap.size) (hk : ∀ b, b < w.heap.size → w'.heap[b]? = w.heap[b]?) (hio : Still w w' := by first | exact ⟨rfl, rfl, rfl⟩ | assumption) : Ext φ w φ w' where
  size := hs
  io := hio
  len := Nat.le_refl _
  old _ _ := .inl rfl
  keep b hb _ := hk b hb
  tail i b e hi c T fr hc := ⟨c, by
    rw [hk b (by
      rcases Nat.lt_or_ge b w.heap.size with h | h
      · exact h
      · rw [Array.getElem?_eq_none h] at hc; cases hc)]; exact hc, rfl, fun _ _ => rfl⟩
  objs i b hi _ := ⟨i, _, hi⟩
  tails i b e hi _ := .inl ⟨i, e, hi, Nat.le_refl _⟩
theorem Inv.more {φ : List Pl} {w w' : World} {h : List Ho} (hi : Inv F φ w h) (hs : w.heap.size ≤ w'.heap.size) (hk : ∀ b, b < w.heap.size → w'.heap[b]? = w.heap[b]?) (hio : Still w w' := by first | exact ⟨rfl, rfl, rfl⟩ | assumption) : Inv F φ w' h :=
  hi.step (.more hs hk hio) hi.len (fun i p o hp ho => .inl ⟨hp, ho, fun b hb => hk b (hi.lt hp hb)⟩) hi.apart fun i p b hp hb => .inl ⟨i, p, hp, hb⟩
theorem more_alloc (w : World) (o : Obj) : w.heap.size ≤ (w.alloc o).heap.size ∧ ∀ b, b < w.heap.size → (w.alloc o).heap[b]? = w.heap[b]? :=
  ⟨by rw [World.size_alloc]; omega, fun b hb => by show (w.heap.push o)[b]? = _; rw [Array.getElem?_push, if_neg (Nat.ne_of_lt hb)]⟩

theorem get_snoc {α : Type} {l : List α} {x y : α} {i : Nat} (h : (l ++ [x])[i]? = some y) : (i < l.length ∧ l[i]? = some y) ∨ (i = l.length ∧ y = x) := by
  rcases Nat.lt_trichotomy i l.length with h1 | h1 | h1
  · rw [List.getElem?_append_left h1] at h; exact .inl ⟨h1, h⟩
  · subst h1; simp at h; exact .inr ⟨rfl, h.symm⟩
  · rw [List.getElem?_append_right (by omega), List.getElem?_eq_none (by simp; omega)] at h; cases h
theorem get_snoc_old {α : Type} {l : List α} {x y : α} {i : Nat} (h : l[i]? = some y) : (l ++ [x])[i]? = some y := by
  have : i < l.length := by
    rcases Nat.lt_or_ge i l.length with h1 | h1
    · exact h1
    · rw [List.getElem?_eq_none h1] at h; cases h
  rw [List.getElem?_append_left this]; exact h

theorem get_lt {α : Type} {l : List α} {i : Nat} {x : α} (h : l[i]? = some x) : i < l.length := by
  rcases Nat.lt_or_ge i l.length with h1 | h1
  · exact h1
  · rw [List.getElem?_eq_none h1] at h; cases h
theorem heap_lt {w : World} {b : Nat} {x : Obj} (h : w.heap[b]? = some x) : b < w.heap.size := by
  rcases Nat.lt_or_ge b w.heap.size with h1 | h1
  · exact h1
  · rw [Array.getElem?_eq_none h1] at h; cases h
theorem get_set {α : Type} {l : List α} {i j : Nat} {x y : α} (h : (l.set i x)[j]? = some y) : (j = i ∧ y = x ∧ i < l.length) ∨ (j ≠ i ∧ l[j]? = some y) := by
  rw [List.getElem?_set] at h
  by_cases e : i = j
  · subst e
    rw [if_pos rfl] at h
    by_cases hl : i < l.length
    · rw [if_pos hl] at h; cases h; exact .inl ⟨rfl, rfl, hl⟩
    · rw [if_neg hl] at h; cases h
  · rw [if_neg e] at h; exact .inr ⟨fun h => e h.symm, h⟩

/-- A number is set aside. -/
theorem Ext.reserve (φ : List Pl) (w : World) : Ext φ w (φ ++ [.yet]) w where
  io := ⟨rfl, rfl, rfl⟩
  size := Nat.le_refl _
  len := by simp
  old i hi := by
    obtain ⟨p, hp, _⟩ := hi
    exact .inl (by rw [List.getElem?_append_left (get_lt hp)])
  keep b hb _ := rfl
  tail i b e hi c T fr hc := ⟨c, hc, rfl, fun _ _ => rfl⟩
  objs i b hi hb := by
    rcases get_snoc hi with ⟨_, h⟩ | ⟨_, h⟩
    · exact ⟨i, _, h⟩
    · cases h
  tails i b e hi hb := by
    rcases get_snoc hi with ⟨_, h⟩ | ⟨_, h⟩
    · exact .inl ⟨i, e, h, Nat.le_refl _⟩
    · cases h
theorem Inv.reserve {φ : List Pl} {w : World} {h : List Ho} (hi : Inv F φ w h) : Inv F (φ ++ [.yet]) w (h ++ [.yet]) := by
  refine hi.step (.reserve φ w) (by simp [hi.len]) (fun i q x hq hx => ?_) (fun i j q r b hq hr hb hb' => ?_) fun i q b hq hb => ?_
  · rcases get_snoc hq with ⟨h1, h2⟩ | ⟨h1, h2⟩
    · rcases get_snoc hx with ⟨h3, h4⟩ | ⟨h3, h4⟩
      · exact .inl ⟨h2, h4, fun _ _ => rfl⟩
      · rw [hi.len] at h1; omega
    · rcases get_snoc hx with ⟨h3, h4⟩ | ⟨h3, h4⟩
      · rw [← hi.len] at h3; omega
      · subst h2 h4; exact .inr trivial
  · rcases get_snoc hq with ⟨h1, h2⟩ | ⟨h1, h2⟩ <;> rcases get_snoc hr with ⟨h3, h4⟩ | ⟨h3, h4⟩
    · exact hi.apart i j q r b h2 h4 hb hb'
    · subst h4; cases hb'
    · subst h2; cases hb
    · omega
  · rcases get_snoc hq with ⟨_, h2⟩ | ⟨_, h2⟩
    · exact .inl ⟨i, q, h2, hb⟩
    · subst h2; cases hb

/-- A number that was set aside is given to an object whose block, where it has one, is new. -/
theorem Ext.fill {φ : List Pl} {w w' : World} {r : Nat} (p : Pl) (hr : φ[r]? = some .yet) (hs : w.heap.size ≤ w'.heap.size) (hk : ∀ b, b < w.heap.size → w'.heap[b]? = w.heap[b]?) (hp : ∀ b, p.blk = some b → w.heap.size ≤ b) (hio : Still w w' := by first | exact ⟨rfl, rfl, rfl⟩ | assumption) : Ext φ w (φ.set r p) w' where
  size := hs
  io := hio
  len := by simp
  old i hi := by
    obtain ⟨q, hq, hne⟩ := hi
    have : i ≠ r := fun e => by subst e; rw [hr] at hq; cases hq; exact hne rfl
    exact .inl (by rw [List.getElem?_set_ne (fun e => this e.symm)])
  keep b hb _ := hk b hb
  tail i b e hi c T fr hc := (Ext.more (φ := φ) hs hk hio).tail i b e hi c T fr hc
  objs i b hi hb := by
    rcases get_set hi with ⟨_, h, _⟩ | ⟨_, h⟩
    · have := hp b (by rw [← h]; rfl); omega
    · exact ⟨i, _, h⟩
  tails i b e hi hb := by
    rcases get_set hi with ⟨_, h, _⟩ | ⟨_, h⟩
    · have := hp b (by rw [← h]; rfl); omega
    · exact .inl ⟨i, e, h, Nat.le_refl _⟩
theorem Inv.fill {φ : List Pl} {w w' : World} {h : List Ho} (hi : Inv F φ w h) {r : Nat} (p : Pl) (o : Ho) (hr : φ[r]? = some .yet) (hs : w.heap.size ≤ w'.heap.size) (hk : ∀ b, b < w.heap.size → w'.heap[b]? = w.heap[b]?) (hp : ∀ b, p.blk = some b → w.heap.size ≤ b)
    (hok : ObOk F (φ.set r p) w' p o) (hio : Still w w' := by first | exact ⟨rfl, rfl, rfl⟩ | assumption) : Inv F (φ.set r p) w' (h.set r o) := by
  refine hi.step (.fill p hr hs hk hp hio) (by simp [hi.len]) (fun i q x hq hx => ?_) (fun i j q r2 b hq hr2 hb hb' => ?_) fun i q b hq hb => ?_
  · rcases get_set hq with ⟨rfl, rfl, _⟩ | ⟨h1, h2⟩
    · rcases get_set hx with ⟨_, rfl, _⟩ | ⟨h3, _⟩
      · exact .inr hok
      · exact absurd rfl h3
    · rcases get_set hx with ⟨e, _, _⟩ | ⟨_, h4⟩
      · exact absurd e h1
      · exact .inl ⟨h2, h4, fun b hb => hk b (hi.lt h2 hb)⟩
  · rcases get_set hq with ⟨rfl, rfl, _⟩ | ⟨h1, h2⟩ <;> rcases get_set hr2 with ⟨h3, h4, _⟩ | ⟨h3, h4⟩
    · exact h3.symm
    · have := hi.lt h4 hb'; have := hp b hb; omega
    · subst h4; have := hi.lt h2 hb; have := hp b hb'; omega
    · exact hi.apart i j q r2 b h2 h4 hb hb'
  · rcases get_set hq with ⟨_, rfl, _⟩ | ⟨_, h2⟩
    · exact .inr (hp b hb)
    · exact .inl ⟨i, q, h2, hb⟩

/-- One object's block has changed. -/
theorem Ext.atObj {φ : List Pl} {w w' : World} {i b z : Nat} (hb : φ[i]? = some (.obj b z)) (hap : ∀ (j : Nat) (q : Pl), φ[j]? = some q → q.blk = some b → j = i)
    (hs : w'.heap.size = w.heap.size) (hk : ∀ b', b' ≠ b → w'.heap[b']? = w.heap[b']?) (hio : Still w w' := by first | exact ⟨rfl, rfl, rfl⟩ | assumption) : Ext φ w φ w' where
  size := Nat.le_of_eq hs.symm
  io := hio
  len := Nat.le_refl _
  old _ _ := .inl rfl
  keep b' _ hno := hk b' fun e => hno i _ hb (by rw [e]; rfl)
  tail j b' e hj c T fr hc := by
    refine ⟨c, ?_, rfl, fun _ _ => rfl⟩
    rw [hk b' fun e' => ?_]
    · exact hc
    · subst e'
      have := hap j _ hj rfl
      subst this; rw [hb] at hj; cases hj
  objs j b' hj _ := ⟨j, _, hj⟩
  tails j b' e hj _ := .inl ⟨j, e, hj, Nat.le_refl _⟩
theorem Inv.atObj {φ : List Pl} {w w' : World} {h : List Ho} (hi : Inv F φ w h) {i b z : Nat} {o : Ho} (hb : φ[i]? = some (.obj b z))
    (hs : w'.heap.size = w.heap.size) (hk : ∀ b', b' ≠ b → w'.heap[b']? = w.heap[b']?) (hok : ObOk F φ w' (.obj b z) o) (hio : Still w w' := by first | exact ⟨rfl, rfl, rfl⟩ | assumption) : Inv F φ w' (h.set i o) := by
  have hap : ∀ (j : Nat) (q : Pl), φ[j]? = some q → q.blk = some b → j = i := fun j q hq hqb => hi.apart j i q _ b hq hb hqb rfl
  refine hi.step (.atObj hb hap hs hk hio) (by simp [hi.len]) (fun j p x hp hx => ?_) hi.apart fun i p b hp hb => .inl ⟨i, p, hp, hb⟩
  rcases get_set hx with ⟨rfl, rfl, _⟩ | ⟨hne, hx⟩
  · rw [hb] at hp; cases hp; exact .inr hok
  · refine .inl ⟨hp, hx, fun b' hb' => hk b' fun e => ?_⟩
    subst e; exact hne (hap j p hp hb')

/-- An object is given up. -/
theorem Ext.kill (φ : List Pl) (w : World) (i : Nat) : Ext φ w (φ.set i .dead) w where
  io := ⟨rfl, rfl, rfl⟩
  size := Nat.le_refl _
  len := by simp
  old j hj := by
    obtain ⟨q, hq, _⟩ := hj
    have hj := get_lt hq
    rw [List.getElem?_set]
    by_cases e : i = j
    · rw [if_pos e, if_pos (e ▸ hj)]; exact .inr rfl
    · rw [if_neg e]; exact .inl rfl
  keep _ _ _ := rfl
  tail j b e hj c T fr hc := ⟨c, hc, rfl, fun _ _ => rfl⟩
  objs j b hj _ := by
    rcases get_set hj with ⟨_, h, _⟩ | ⟨_, h⟩
    · cases h
    · exact ⟨j, _, h⟩
  tails j b e hj _ := by
    rcases get_set hj with ⟨_, h, _⟩ | ⟨_, h⟩
    · cases h
    · exact .inl ⟨j, e, h, Nat.le_refl _⟩
theorem Inv.kill {φ : List Pl} {w : World} {h : List Ho} (hi : Inv F φ w h) (i : Nat) : Inv F (φ.set i .dead) w (h.set i .dead) := by
  refine hi.step (.kill φ w i) (by simp [hi.len]) (fun j p x hp hx => ?_) (fun j k p q b hp hq hb hb' => ?_) fun j p b hp hb => by
    rcases get_set hp with ⟨_, rfl, _⟩ | ⟨_, hp⟩
    · cases hb
    · exact .inl ⟨j, p, hp, hb⟩
  · rcases get_set hp with ⟨rfl, rfl, _⟩ | ⟨hne, hp⟩
    · rcases get_set hx with ⟨_, rfl, _⟩ | ⟨hne, _⟩
      · exact .inr trivial
      · exact absurd rfl hne
    · rcases get_set hx with ⟨e, _, _⟩ | ⟨_, hx⟩
      · exact absurd e hne
      · exact .inl ⟨hp, hx, fun _ _ => rfl⟩
  · rcases get_set hp with ⟨_, rfl, _⟩ | ⟨_, hp⟩
    · cases hb
    · rcases get_set hq with ⟨_, rfl, _⟩ | ⟨_, hq⟩
      · cases hb'
      · exact hi.apart j k p q b hp hq hb hb'

/-- A slice has grown where it lies: its old tail is given up, there is a new one. -/
theorem Ext.tailOn {φ : List Pl} {w w' : World} {t r b e e' : Nat} (hb : φ[t]? = some (.tail b e)) (hr : φ[r]? = some .yet) (hle : e ≤ e') (hap : ∀ (j : Nat) (q : Pl), φ[j]? = some q → q.blk = some b → j = t)
    (hs : w'.heap.size = w.heap.size) (hk : ∀ b', b' ≠ b → w'.heap[b']? = w.heap[b']?)
    (hc : ∀ c T fr, w.heap[b]? = some (.cells c T fr) → ∃ c', w'.heap[b]? = some (.cells c' T fr) ∧ c'.size = c.size ∧ ∀ o : Nat, o < e → c'[o]? = c[o]?) (hio : Still w w' := by first | exact ⟨rfl, rfl, rfl⟩ | assumption) : Ext φ w ((φ.set t .dead).set r (.tail b e')) w' where
  size := Nat.le_of_eq hs.symm
  io := hio
  len := by simp
  old j hj := by
    have hne : j ≠ r := fun e => by
      subst e
      obtain ⟨q, hq, hqn⟩ := hj
      rw [hr] at hq; cases hq; exact hqn rfl
    rw [List.getElem?_set_ne (fun e => hne e.symm)]
    exact (Ext.kill φ w t).old j hj
  keep b' _ hno := hk b' fun e => hno t _ hb (by rw [e]; rfl)
  tail j b' e2 hj c T fr h2 := by
    by_cases e1 : b' = b
    · subst e1
      have := hap j _ hj rfl
      subst this; rw [hb] at hj; cases hj
      exact hc c T fr h2
    · exact ⟨c, by rw [hk b' e1]; exact h2, rfl, fun _ _ => rfl⟩
  objs j b' hj hlt := by
    rcases get_set hj with ⟨_, h, _⟩ | ⟨_, h⟩
    · cases h
    · exact (Ext.kill φ w t).objs j b' h hlt
  tails j b' e2 hj hlt := by
    rcases get_set hj with ⟨_, h, _⟩ | ⟨_, h⟩
    · cases h; exact .inl ⟨t, e, hb, hle⟩
    · exact (Ext.kill φ w t).tails j b' e2 h hlt
theorem Inv.tailOn {φ : List Pl} {w w' : World} {h : List Ho} (hi : Inv F φ w h) {t r b e e' : Nat} (hb : φ[t]? = some (.tail b e)) (hr : φ[r]? = some .yet) (hle : e ≤ e')
    (hs : w'.heap.size = w.heap.size) (hk : ∀ b', b' ≠ b → w'.heap[b']? = w.heap[b']?)
    (hc : ∀ c T fr, w.heap[b]? = some (.cells c T fr) → ∃ c', w'.heap[b]? = some (.cells c' T fr) ∧ c'.size = c.size ∧ ∀ o : Nat, o < e → c'[o]? = c[o]?)
    (hfit : ∀ c T fr, w'.heap[b]? = some (.cells c T fr) → e' ≤ c.size) (hio : Still w w' := by first | exact ⟨rfl, rfl, rfl⟩ | assumption) : Inv F ((φ.set t .dead).set r (.tail b e')) w' ((h.set t .dead).set r .tail) := by
  have hap : ∀ (j : Nat) (q : Pl), φ[j]? = some q → q.blk = some b → j = t := fun j q hq hqb => hi.apart j t q _ b hq hb hqb rfl
  have hlt := get_lt hb
  -- an entry of the new list
  have cs : ∀ (j : Nat) (p : Pl), ((φ.set t .dead).set r (.tail b e'))[j]? = some p → (j = r ∧ p = .tail b e') ∨ (j ≠ r ∧ j = t ∧ p = .dead) ∨ (j ≠ r ∧ j ≠ t ∧ φ[j]? = some p) := fun j p hp => by
    rcases get_set hp with ⟨h1, h2, _⟩ | ⟨h1, h2⟩
    · exact .inl ⟨h1, h2⟩
    · rcases get_set h2 with ⟨h3, h4, _⟩ | ⟨h3, h4⟩
      · exact .inr (.inl ⟨h1, h3, h4⟩)
      · exact .inr (.inr ⟨h1, h3, h4⟩)
  have hx : ∀ (j : Nat) (p : Pl), ((φ.set t .dead).set r (.tail b e'))[j]? = some p → p.blk = some b → j = r := fun j p hp hpb => by
    rcases cs j p hp with ⟨h1, _⟩ | ⟨_, _, h3⟩ | ⟨_, h2, h3⟩
    · exact h1
    · subst h3; cases hpb
    · exact absurd (hap j p h3 hpb) h2
  refine hi.step (.tailOn hb hr hle hap hs hk hc hio) (by simp [hi.len]) (fun j p x hp hx' => ?_) (fun j k p q b' hp hq hb1 hb2 => ?_) fun j p b2 hp hpb => by
    rcases cs j p hp with ⟨_, h2⟩ | ⟨_, _, h3⟩ | ⟨_, _, h3⟩
    · subst h2; exact .inl ⟨t, _, hb, hpb⟩
    · subst h3; cases hpb
    · exact .inl ⟨j, p, h3, hpb⟩
  · rcases cs j p hp with ⟨h1, h2⟩ | ⟨h1, h2, h3⟩ | ⟨h1, h2, h3⟩
    · subst h1 h2
      have ho : ∃ o, h[t]? = some o := ⟨h[t]'(by rw [← hi.len]; exact hlt), List.getElem?_eq_getElem _⟩
      obtain ⟨o, ho⟩ := ho
      have := hi.ok t _ o hb ho
      rcases get_set hx' with ⟨_, rfl, _⟩ | ⟨hne, _⟩
      · refine .inr ?_
        cases o <;> simp only [ObOk, rowAt] at this
        obtain ⟨arr, ⟨T, hr⟩, _⟩ := this
        obtain ⟨c', h1, h2, _⟩ := hc arr T _ hr
        exact ⟨c', ⟨T, h1⟩, hfit _ _ _ h1⟩
      · exact absurd rfl hne
    · subst h2 h3
      rcases get_set hx' with ⟨e, _, _⟩ | ⟨_, hx'⟩
      · exact absurd e h1
      · rcases get_set hx' with ⟨_, rfl, _⟩ | ⟨hne, _⟩
        · exact .inr trivial
        · exact absurd rfl hne
    · rcases get_set hx' with ⟨e, _, _⟩ | ⟨_, hx'⟩
      · exact absurd e h1
      · rcases get_set hx' with ⟨e, _, _⟩ | ⟨_, hx'⟩
        · exact absurd e h2
        · exact .inl ⟨h3, hx', fun b' hb' => hk b' fun e => by subst e; exact h2 (hap j p h3 hb')⟩
  · by_cases e1 : b' = b
    · subst e1; rw [hx j p hp hb1, hx k q hq hb2]
    · have old : ∀ (j : Nat) (p : Pl), ((φ.set t .dead).set r (.tail b e'))[j]? = some p → p.blk = some b' → φ[j]? = some p := fun j p hp hpb => by
        rcases cs j p hp with ⟨_, h2⟩ | ⟨_, _, h3⟩ | ⟨_, _, h3⟩
        · subst h2; simp only [Pl.blk, Option.some.injEq] at hpb; exact absurd hpb.symm e1
        · subst h3; cases hpb
        · exact h3
      exact hi.apart j k p q b' (old j p hp hb1) (old k q hq hb2) hb1 hb2
/-- An object has got another number, and perhaps other cells. -/
theorem Ext.objOn {φ : List Pl} {w w' : World} {t r b z : Nat} (hb : φ[t]? = some (.obj b z)) (hr : φ[r]? = some .yet) (hap : ∀ (j : Nat) (q : Pl), φ[j]? = some q → q.blk = some b → j = t)
    (hs : w'.heap.size = w.heap.size) (hk : ∀ b', b' ≠ b → w'.heap[b']? = w.heap[b']?) (hio : Still w w' := by first | exact ⟨rfl, rfl, rfl⟩ | assumption) : Ext φ w ((φ.set t .dead).set r (.obj b z)) w' where
  size := Nat.le_of_eq hs.symm
  io := hio
  len := by simp
  old j hj := by
    have hne : j ≠ r := fun e => by
      subst e
      obtain ⟨q, hq, hqn⟩ := hj
      rw [hr] at hq; cases hq; exact hqn rfl
    rw [List.getElem?_set_ne (fun e => hne e.symm)]
    exact (Ext.kill φ w t).old j hj
  keep b' _ hno := hk b' fun e => hno t _ hb (by rw [e]; rfl)
  tail j b' e2 hj c T fr h2 := by
    by_cases e1 : b' = b
    · subst e1
      have := hap j _ hj rfl
      subst this; rw [hb] at hj; cases hj
    · exact ⟨c, by rw [hk b' e1]; exact h2, rfl, fun _ _ => rfl⟩
  objs j b' hj hlt := by
    rcases get_set hj with ⟨_, h, _⟩ | ⟨_, h⟩
    · cases h; exact ⟨t, _, hb⟩
    · exact (Ext.kill φ w t).objs j b' h hlt
  tails j b' e2 hj hlt := by
    rcases get_set hj with ⟨_, h, _⟩ | ⟨_, h⟩
    · cases h
    · exact (Ext.kill φ w t).tails j b' e2 h hlt
theorem Inv.objOn {φ : List Pl} {w w' : World} {h : List Ho} (hi : Inv F φ w h) {t r b z : Nat} {ob : Ho} (hb : φ[t]? = some (.obj b z)) (hr : φ[r]? = some .yet)
    (hs : w'.heap.size = w.heap.size) (hk : ∀ b', b' ≠ b → w'.heap[b']? = w.heap[b']?) (hok : ObOk F ((φ.set t .dead).set r (.obj b z)) w' (.obj b z) ob)
    (hio : Still w w' := by first | exact ⟨rfl, rfl, rfl⟩ | assumption) : Inv F ((φ.set t .dead).set r (.obj b z)) w' ((h.set t .dead).set r ob) := by
  have hap : ∀ (j : Nat) (q : Pl), φ[j]? = some q → q.blk = some b → j = t := fun j q hq hqb => hi.apart j t q _ b hq hb hqb rfl
  have cs : ∀ (j : Nat) (p : Pl), ((φ.set t .dead).set r (.obj b z))[j]? = some p → (j = r ∧ p = .obj b z) ∨ (j ≠ r ∧ j = t ∧ p = .dead) ∨ (j ≠ r ∧ j ≠ t ∧ φ[j]? = some p) := fun j p hp => by
    rcases get_set hp with ⟨h1, h2, _⟩ | ⟨h1, h2⟩
    · exact .inl ⟨h1, h2⟩
    · rcases get_set h2 with ⟨h3, h4, _⟩ | ⟨h3, h4⟩
      · exact .inr (.inl ⟨h1, h3, h4⟩)
      · exact .inr (.inr ⟨h1, h3, h4⟩)
  have hx : ∀ (j : Nat) (p : Pl), ((φ.set t .dead).set r (.obj b z))[j]? = some p → p.blk = some b → j = r := fun j p hp hpb => by
    rcases cs j p hp with ⟨h1, _⟩ | ⟨_, _, h3⟩ | ⟨_, h2, h3⟩
    · exact h1
    · subst h3; cases hpb
    · exact absurd (hap j p h3 hpb) h2
  refine hi.step (.objOn hb hr hap hs hk hio) (by simp [hi.len]) (fun j p x hp hx' => ?_) (fun j k p q b' hp hq hb1 hb2 => ?_) fun j p b2 hp hpb => by
    rcases cs j p hp with ⟨_, h2⟩ | ⟨_, _, h3⟩ | ⟨_, _, h3⟩
    · subst h2; exact .inl ⟨t, _, hb, hpb⟩
    · subst h3; cases hpb
    · exact .inl ⟨j, p, h3, hpb⟩
  · rcases cs j p hp with ⟨h1, h2⟩ | ⟨h1, h2, h3⟩ | ⟨h1, h2, h3⟩
    · subst h1 h2
      rcases get_set hx' with ⟨_, rfl, _⟩ | ⟨hne, _⟩
      · exact .inr hok
      · exact absurd rfl hne
    · subst h2 h3
      rcases get_set hx' with ⟨e, _, _⟩ | ⟨_, hx'⟩
      · exact absurd e h1
      · rcases get_set hx' with ⟨_, rfl, _⟩ | ⟨hne, _⟩
        · exact .inr trivial
        · exact absurd rfl hne
    · rcases get_set hx' with ⟨e, _, _⟩ | ⟨_, hx'⟩
      · exact absurd e h1
      · rcases get_set hx' with ⟨e, _, _⟩ | ⟨_, hx'⟩
        · exact absurd e h2
        · exact .inl ⟨h3, hx', fun b' hb' => hk b' fun e => by subst e; exact h2 (hap j p h3 hb')⟩
  · by_cases e1 : b' = b
    · subst e1; rw [hx j p hp hb1, hx k q hq hb2]
    · have old : ∀ (j : Nat) (p : Pl), ((φ.set t .dead).set r (.obj b z))[j]? = some p → p.blk = some b' → φ[j]? = some p := fun j p hp hpb => by
        rcases cs j p hp with ⟨_, h2⟩ | ⟨_, _, h3⟩ | ⟨_, _, h3⟩
        · subst h2; simp only [Pl.blk, Option.some.injEq] at hpb; exact absurd hpb.symm e1
        · subst h3; cases hpb
        · exact h3
      exact hi.apart j k p q b' (old j p hp hb1) (old k q hq hb2) hb1 hb2
end Go.Proofs.YtonllhjmoenckaaDoor
