/- Parts of the proofs, joined: VsA. -/
import Derived.WalkKit
import Derived.Below
import Derived.Orders
import Derived.ChangeKeysEq
import Derived.Deep.MidRow
import Derived.Laws.IdiomStrings
import Derived.Laws.BytesString
import Derived.Great.BuildSlice
namespace Go.Proofs.YtgfnpcmehnjopaaGreatDoor
section
open Go Go.RowKit
set_option linter.unusedVariables false
set_option linter.unusedSimpArgs false
structure Fr where
  shut : Nat → Nat → Prop
  known : Nat → Obj → Prop
variable {F : Fr}
inductive D where
  | sc (x : Value)
  | sl (k : Nat) (es : List (List D))
  deriving Inhabited
inductive V where
  | d (x : D)
  | agg (cs : List V)
  | tup (vs : List V)
  | own (k : Nat) (es : List (List D)) (t : Nat)
  | full (k : Nat) (es : List (List D))
  | ptr (o off : Nat)
  | ep (cells : List D) (off : Nat)
  | hs (g : Bool) (k o off n : Nat)
  | mp (o : Nat)
  | fn (f : Nat) (cap : List V)
  | fnb (f : Nat) (first : List V)
  | any
  | ub
  deriving Inhabited
abbrev V.undef : V := .tup []
abbrev V.sc (x : Value) : V := .d (.sc x)
abbrev V.sl (k : Nat) (es : List (List D)) : V := .d (.sl k es)
abbrev V.nilsl : V := .d (.sc (.slice none 0 0))
inductive Pl where
  | obj (b n : Nat)
  | tail (b e : Nat)
  | free
  | dead
  | yet
  deriving Inhabited
structure ME where
  born : Nat
  key : Value
  val : V
structure GM where
  c : Nat
  es : List ME
def GM.mapV (f : V → V) (m : GM) : GM := ⟨m.c, m.es.map fun e => ⟨e.born, e.key, f e.val⟩⟩
inductive Ho where
  | cells (cs : List V)
  | map (m : GM)
  | tail
  | dead
  | yet
  deriving Inhabited
def lv (φ : List Pl) (t : Nat) : Prop := ∃ p, φ[t]? = some p ∧ p ≠ .yet
def flat : Value → Bool
  | .bool _ | .int _ _ | .string _ | .pointer none | .slice none 0 0 | .map none | .nilFunc | .nilIface => true
  | _ => false
def prot (F : Fr) (φ : List Pl) (w : World) (b o : Nat) : Prop :=
  b < w.heap.size ∧ (∀ {z : Nat} (i : Nat), φ[i]? ≠ some (Pl.obj b z)) ∧ (∀ (i e : Nat), φ[i]? = some (Pl.tail b e) → o < e) ∧ ¬ F.shut b o
def cellP (F : Fr) (φ : List Pl) (w : World) (b o : Nat) (v : Value) : Prop := prot F φ w b o ∧ w.cell? ⟨b, o, none⟩ = some v
inductive DenD (F : Fr) (φ : List Pl) (w : World) : Value → D → Prop
  | sc {x : Value} (h : flat x = true) : DenD F φ w x (.sc x)
  | nil {k : Nat} {a : Option Addr} : DenD F φ w (.slice a 0 0) (.sl k [])
  | sl {k n cap b off : Nat} {es : List (List D)} (c : Nat → Nat → Value) (hn : es.length = n) (hcap : n ≤ cap ∧ cap ≤ 9223372036854775807) (hk : ∀ (i : Nat) (e : List D), es[i]? = some e → e.length = k)
      (hc : ∀ i j, i < n → j < k → cellP F φ w b (off + i * k + j) (c i j))
      (hd : ∀ (i : Nat) (e : List D) (j : Nat) (x : D), es[i]? = some e → e[j]? = some x → DenD F φ w (c i j) x) :
      DenD F φ w (.slice (some ⟨b, off, none⟩) n cap) (.sl k es)
inductive Den (F : Fr) (φ : List Pl) (w : World) : Value → V → Prop
  | d {r : Value} {x : D} (h : DenD F φ w r x) : Den F φ w r (.d x)
  | agg {rs : Array Value} {cs : List V} (hs : rs.size = cs.length) (h1 : ∀ (i : Nat) (r : Value), rs[i]? = some r → r.oneCell' = true)
      (h : ∀ (i : Nat) (r : Value) (v : V), rs[i]? = some r → cs[i]? = some v → Den F φ w r v) : Den F φ w (.agg rs) (.agg cs)
  | tup {rs : Array Value} {cs : List V} (hs : rs.size = cs.length)
      (h : ∀ (i : Nat) (r : Value) (v : V), rs[i]? = some r → cs[i]? = some v → Den F φ w r v) : Den F φ w (.tuple rs) (.tup cs)
  | own {k t n cap b : Nat} {es : List (List D)} (ht : lv φ t) (h : DenD F φ w (.slice (some ⟨b, 0, none⟩) n cap) (.sl k es)) (hn : es.length = n)
      (hp : ∀ b' e, φ[t]? = some (Pl.tail b' e) → b' = b ∧ e = n * k ∧ ∃ c T, w.heap[b]? = some (.cells c T (0, 0)) ∧ c.size = cap * k)
      (hf : φ[t]? = some Pl.free → cap = n) (ho : ∀ {z : Nat} b', φ[t]? ≠ some (Pl.obj b' z)) : Den F φ w (.slice (some ⟨b, 0, none⟩) n cap) (.own k es t)
  | ownEx {k t n : Nat} {a : Option Addr} {es : List (List D)} (ht : lv φ t) (hh : φ[t]? = some Pl.free ∨ φ[t]? = some Pl.dead) (h : DenD F φ w (.slice a n n) (.sl k es)) (hn : es.length = n) : Den F φ w (.slice a n n) (.own k es t)
  | full {k n : Nat} {a : Option Addr} {es : List (List D)} (h : DenD F φ w (.slice a n n) (.sl k es)) (hn : es.length = n) : Den F φ w (.slice a n n) (.full k es)
  | ptr {o off b : Nat} (ho : lv φ o) (h : ∀ {z : Nat} b', φ[o]? = some (Pl.obj b' z) → b' = b) : Den F φ w (.pointer (some ⟨b, off, none⟩)) (.ptr o off)
  | ep {cells : List D} {off b at_ a : Nat} (c : Nat → Value) (ha : a = at_ + off) (hc : ∀ j, j < cells.length → cellP F φ w b (at_ + j) (c j)) (hd : ∀ (j : Nat) (x : D), cells[j]? = some x → DenD F φ w (c j) x) :
      Den F φ w (.pointer (some ⟨b, a, none⟩)) (.ep cells off)
  | hs {g : Bool} {k o off n cap b : Nat} (ho : lv φ o) (h : ∀ {z : Nat} b', φ[o]? = some (Pl.obj b' z) → b' = b ∧ (g = true → off + cap * k ≤ z)) (hcap : n ≤ cap ∧ cap ≤ 9223372036854775807) (hf : g = true → φ[o]? ≠ some Pl.free) : Den F φ w (.slice (some ⟨b, off, none⟩) n cap) (.hs g k o off n)
  | hsE {k o off cap : Nat} {a : Option Addr} (ho : lv φ o) (ha : a = none → cap = 0) (hcap : cap ≤ 9223372036854775807) (hsp : ∀ x, a = some x → x.spot = none) : Den F φ w (.slice a 0 cap) (.hs false k o off 0)
  | hsN {k o off : Nat} {a : Option Addr} (ho : lv φ o) (h : ∀ {z : Nat} b', φ[o]? ≠ some (Pl.obj b' z)) : Den F φ w (.slice a 0 0) (.hs true k o off 0)
  | mp {o b : Nat} (ho : lv φ o) (h : ∀ {z : Nat} b', φ[o]? = some (Pl.obj b' z) → b' = b) : Den F φ w (.map (some b)) (.mp o)
  | fn {f : Nat} {rs : Array Value} {cs : List V} (hs : rs.size = cs.length)
      (h : ∀ (i : Nat) (r : Value) (v : V), rs[i]? = some r → cs[i]? = some v → Den F φ w r v) : Den F φ w (.func (.func f) #[] rs) (.fn f cs)
  | fnb {f : Nat} {rs : Array Value} {cs : List V} (hs : rs.size = cs.length)
      (h : ∀ (i : Nat) (r : Value) (v : V), rs[i]? = some r → cs[i]? = some v → Den F φ w r v) : Den F φ w (.func (.func f) rs #[]) (.fnb f cs)
  | any {r : Value} : Den F φ w r .any
  | ub {b : Bool} : Den F φ w (.bool b) .ub
def rowAt (w : World) (b : Nat) (arr : Array Value) : Prop := ∃ T, w.heap[b]? = some (.cells arr T (0, 0))
def ObOk (F : Fr) (φ : List Pl) (w : World) : Pl → Ho → Prop
  | .obj b z, .cells cs => ∃ arr, rowAt w b arr ∧ arr.size = z ∧ cs.length ≤ arr.size ∧ ∀ (j : Nat) (v : V), cs[j]? = some v → ∃ r, arr[j]? = some r ∧ r.oneCell' = true ∧ Den F φ w r v
  | .obj b _, .map g => ∃ (ents : Array MapEntry) (clock : Nat), w.heap[b]? = some (.map ents clock) ∧ (clock = g.c ∧ ents.size = g.es.length) ∧ ∀ (j : Nat) (m : MapEntry) (e : ME), ents[j]? = some m → g.es[j]? = some e → (m.key = e.key ∧ m.born = e.born) ∧ Den F φ w m.val e.val
  | .tail b e, .tail => ∃ arr, rowAt w b arr ∧ e ≤ arr.size
  | .free, .tail => True
  | .free, .cells cs => cs = []
  | .dead, .dead => True
  | .yet, .yet => True
  | _, _ => False
def Pl.blk : Pl → Option Nat
  | .obj b _ => some b
  | .tail b _ => some b
  | _ => none
structure Inv (F : Fr) (φ : List Pl) (w : World) (h : List Ho) : Prop where
  len : φ.length = h.length
  ok : ∀ (i : Nat) (p : Pl) (o : Ho), φ[i]? = some p → h[i]? = some o → ObOk F φ w p o
  apart : ∀ (i j : Nat) (p q : Pl) (b : Nat), φ[i]? = some p → φ[j]? = some q → p.blk = some b → q.blk = some b → i = j
  frB : ∀ b o, F.shut b o → b < w.heap.size
  frO : ∀ (i : Nat) (p : Pl) (b o : Nat), φ[i]? = some p → p.blk = some b → ¬ F.shut b o
  frK : ∀ (b : Nat) (x : Obj), F.known b x → w.heap[b]? = some x ∧ ∀ (i : Nat) (p : Pl), φ[i]? = some p → p.blk ≠ some b
def Still (w w' : World) : Prop := w'.os = w.os ∧ w'.tape = w.tape ∧ w'.output = w.output
structure Ext (φ : List Pl) (w : World) (φ' : List Pl) (w' : World) : Prop where
  size : w.heap.size ≤ w'.heap.size
  len : φ.length ≤ φ'.length
  old : ∀ i, lv φ i → φ'[i]? = φ[i]? ∨ φ'[i]? = some Pl.dead
  keep : ∀ b, b < w.heap.size → (∀ (i : Nat) (p : Pl), φ[i]? = some p → p.blk ≠ some b) → w'.heap[b]? = w.heap[b]?
  tail : ∀ (i b e : Nat), φ[i]? = some (Pl.tail b e) → ∀ c T fr, w.heap[b]? = some (Obj.cells c T fr) → ∃ c', w'.heap[b]? = some (Obj.cells c' T fr) ∧ c'.size = c.size ∧ ∀ o : Nat, o < e → c'[o]? = c[o]?
  objs : ∀ {z : Nat} (i b : Nat), φ'[i]? = some (Pl.obj b z) → b < w.heap.size → ∃ j z' : Nat, φ[j]? = some (Pl.obj b z')
  tails : ∀ (i b e' : Nat), φ'[i]? = some (Pl.tail b e') → b < w.heap.size → (∃ (j e : Nat), φ[j]? = some (Pl.tail b e) ∧ e ≤ e') ∨ ∃ j z : Nat, φ[j]? = some (Pl.obj b z)
  io : Still w w'
theorem Ext.refl (φ : List Pl) (w : World) : Ext φ w φ w :=
  ⟨Nat.le_refl _, Nat.le_refl _, fun _ _ => .inl rfl, fun _ _ _ => rfl, fun _ _ _ _ c T fr hc => ⟨c, hc, rfl, fun _ _ => rfl⟩, fun i b h _ => ⟨i, _, h⟩, fun i b e h _ => .inl ⟨i, e, h, Nat.le_refl _⟩, ⟨rfl, rfl, rfl⟩⟩
theorem prot_ext {φ φ' : List Pl} {w w' : World} (h : Ext φ w φ' w') {b o : Nat} (hp : prot F φ w b o) : prot F φ' w' b o := by
  obtain ⟨h1, h2, h3, h4⟩ := hp
  refine ⟨Nat.lt_of_lt_of_le h1 h.size, fun i hi => ?_, fun i e hi => ?_, h4⟩
  · obtain ⟨j, _, hj⟩ := h.objs i b hi h1
    exact h2 j hj
  · rcases h.tails i b e hi h1 with ⟨j, e', hj, hle⟩ | ⟨j, _, hj⟩
    · exact Nat.lt_of_lt_of_le (h3 j e' hj) hle
    · exact absurd hj (h2 j)
theorem cell_of (w : World) (b o : Nat) (v : Value) : w.cell? ⟨b, o, none⟩ = some v ↔ ∃ c T fr, w.heap[b]? = some (Obj.cells c T fr) ∧ c[o]? = some v := by
  unfold World.cell?
  cases h : w.heap[b]? with
  | none => simp
  | some x => cases x <;> simp
theorem cellP_ext {φ φ' : List Pl} {w w' : World} (h : Ext φ w φ' w') {b o : Nat} {v : Value} (hp : cellP F φ w b o v) : cellP F φ' w' b o v := by
  refine ⟨prot_ext h hp.1, ?_⟩
  obtain ⟨⟨h1, h2, h3, _⟩, hc⟩ := hp
  obtain ⟨c, T, fr, hb, ho⟩ := (cell_of w b o v).1 hc
  by_cases ht : ∃ (i e : Nat), φ[i]? = some (Pl.tail b e)
  · obtain ⟨i, e, hi⟩ := ht
    obtain ⟨c', hb', _, hs⟩ := h.tail i b e hi c T fr hb
    exact (cell_of w' b o v).2 ⟨c', T, fr, hb', by rw [hs o (h3 i e hi), ho]⟩
  · have hk := h.keep b h1 fun i p hi hp => by
      cases p with
      | obj b' z => simp only [Pl.blk, Option.some.injEq] at hp; subst hp; exact h2 i hi
      | tail b' e => simp only [Pl.blk, Option.some.injEq] at hp; subst hp; exact ht ⟨i, e, hi⟩
      | free => simp [Pl.blk] at hp
      | dead => simp [Pl.blk] at hp
      | yet => simp [Pl.blk] at hp
    exact (cell_of w' b o v).2 ⟨c, T, fr, by rw [hk, hb], ho⟩
theorem DenD.ext {φ φ' : List Pl} {w w' : World} (h : Ext φ w φ' w') {r : Value} {x : D} (hd : DenD F φ w r x) : DenD F φ' w' r x := by
  induction hd with
  | sc hx => exact .sc hx
  | nil => exact .nil
  | sl c hn hcap hk hc _ ih => exact .sl c hn hcap hk (fun i j hi hj => cellP_ext h (hc i j hi hj)) ih
theorem old_some {φ φ' : List Pl} {w w' : World} (h : Ext φ w φ' w') {t : Nat} (ht : lv φ t) {p : Pl} (hp : φ'[t]? = some p) (hne : p ≠ Pl.dead) : φ[t]? = some p := by
  rcases h.old t ht with e | e
  · rw [← e]; exact hp
  · rw [e] at hp; cases hp; exact absurd rfl hne
theorem lv_ext {φ φ' : List Pl} {w w' : World} (h : Ext φ w φ' w') {t : Nat} (ht : lv φ t) : lv φ' t := by
  rcases h.old t ht with e | e
  · obtain ⟨p, h1, h2⟩ := ht
    exact ⟨p, by rw [e]; exact h1, h2⟩
  · exact ⟨_, e, by simp⟩
theorem Den.ext {φ φ' : List Pl} {w w' : World} (h : Ext φ w φ' w') {r : Value} {v : V} (hd : Den F φ w r v) : Den F φ' w' r v := by
  have hb : ∀ {o : Nat} {C : Nat → Nat → Prop}, lv φ o → (∀ {z : Nat} b', φ[o]? = some (Pl.obj b' z) → C b' z) → ∀ {z : Nat} b', φ'[o]? = some (Pl.obj b' z) → C b' z := fun ho hh _ b' hb' => hh b' (old_some h ho hb' (by simp))
  induction hd with
  | d hx => exact .d (hx.ext h)
  | agg hs h1 _ ih => exact .agg hs h1 ih
  | tup hs _ ih => exact .tup hs ih
  | @own k t n cap b es ht hd hn hp hf ho =>
    refine .own (lv_ext h ht) (hd.ext h) hn (fun b' e hb' => ?_) (fun hf' => hf (old_some h ht hf' (by simp))) (fun b' hb' => ho b' (old_some h ht hb' (by simp)))
    have h0 := old_some h ht hb' (by simp)
    obtain ⟨e1, e2, c, T, h3, h4⟩ := hp b' e h0
    subst e1
    obtain ⟨c2, hc2, hsz, _⟩ := h.tail t b' e h0 c T _ h3
    exact ⟨rfl, e2, c2, T, hc2, by rw [hsz]; exact h4⟩
  | ownEx ht hh hd hn =>
    refine .ownEx (lv_ext h ht) ?_ (hd.ext h) hn
    rcases h.old _ ht with e | e
    · rw [e]; exact hh
    · exact .inr e
  | full hd hn => exact .full (hd.ext h) hn
  | ptr ho hh => exact .ptr (lv_ext h ho) (hb (C := fun b' _ => b' = _) ho hh)
  | ep c ha hc hd => exact .ep c ha (fun j hj => cellP_ext h (hc j hj)) (fun j x hx => (hd j x hx).ext h)
  | hs ho hh hcap hf => exact .hs (lv_ext h ho) (hb (C := fun b' z => b' = _ ∧ (_ → _ ≤ z)) ho hh) hcap (fun hg hf' => hf hg (old_some h ho hf' (by simp)))
  | hsE ho ha hc hsp => exact .hsE (lv_ext h ho) ha hc hsp
  | hsN ho hh => exact .hsN (lv_ext h ho) (hb (C := fun _ _ => False) ho hh)
  | any => exact .any
  | ub => exact .ub
  | mp ho hh => exact .mp (lv_ext h ho) (hb (C := fun b' _ => b' = _) ho hh)
  | fn hs _ ih => exact .fn hs ih
  | fnb hs _ ih => exact .fnb hs ih
theorem Inv.uniq {φ : List Pl} {w : World} {h : List Ho} (hi : Inv F φ w h) {i j b e e' : Nat} (h1 : φ[i]? = some (Pl.tail b e)) (h2 : φ[j]? = some (Pl.tail b e')) : e = e' := by
  have := hi.apart i j _ _ b h1 h2 rfl rfl
  subst this
  rw [h1] at h2; cases h2; rfl
theorem Ext.trans {φ φ1 φ2 : List Pl} {w w1 w2 : World} {h : List Ho} (hi : Inv F φ w h) (a : Ext φ w φ1 w1) (b : Ext φ1 w1 φ2 w2) : Ext φ w φ2 w2 where
  size := Nat.le_trans a.size b.size
  io := ⟨b.io.1.trans a.io.1, b.io.2.1.trans a.io.2.1, b.io.2.2.trans a.io.2.2⟩
  len := Nat.le_trans a.len b.len
  old i hlt := by
    rcases a.old i hlt with e | e
    · rcases b.old i (lv_ext a hlt) with e' | e'
      · exact .inl (by rw [e', e])
      · exact .inr e'
    · rcases b.old i (lv_ext a hlt) with e' | e'
      · exact .inr (by rw [e', e])
      · exact .inr e'
  keep bl hlt hno := by
    rw [← a.keep bl hlt hno]
    refine b.keep bl (Nat.lt_of_lt_of_le hlt a.size) fun i p hp hb => ?_
    cases p with
    | obj b' z =>
      cases hb
      obtain ⟨j, _, hj⟩ := a.objs i bl hp hlt
      exact hno j _ hj rfl
    | tail b' e =>
      cases hb
      rcases a.tails i bl e hp hlt with ⟨j, e', hj, _⟩ | ⟨j, _, hj⟩ <;> exact hno j _ hj rfl
    | free => cases hb
    | dead => cases hb
    | yet => cases hb
  tail i bl e hie c T fr hc := by
    have hlt : bl < w.heap.size := by
      rcases Nat.lt_or_ge bl w.heap.size with h | h
      · exact h
      · rw [Array.getElem?_eq_none h] at hc; cases hc
    obtain ⟨c1, hc1, hs1, hk1⟩ := a.tail i bl e hie c T fr hc
    by_cases ht : ∃ (j e1 : Nat), φ1[j]? = some (Pl.tail bl e1)
    · obtain ⟨j, e1, hj⟩ := ht
      obtain ⟨c2, hc2, hs2, hk2⟩ := b.tail j bl e1 hj c1 T fr hc1
      have hle : e ≤ e1 := by
        rcases a.tails j bl e1 hj hlt with ⟨j', e', hj', hle⟩ | ⟨j', _, hj'⟩
        · rw [hi.uniq hie hj']; exact hle
        · have := hi.apart i j' _ _ bl hie hj' rfl rfl
          subst this; rw [hie] at hj'; cases hj'
      exact ⟨c2, hc2, by rw [hs2, hs1], fun o ho => by rw [hk2 o (by omega), hk1 o ho]⟩
    · have hk := b.keep bl (Nat.lt_of_lt_of_le hlt a.size) fun j p hp hb => by
        cases p with
        | obj b' z =>
          cases hb
          obtain ⟨j', _, hj'⟩ := a.objs j bl hp hlt
          have := hi.apart i j' _ _ bl hie hj' rfl rfl
          subst this; rw [hie] at hj'; cases hj'
        | tail b' e1 => cases hb; exact ht ⟨j, e1, hp⟩
        | free => cases hb
        | dead => cases hb
        | yet => cases hb
      exact ⟨c1, by rw [hk]; exact hc1, hs1, hk1⟩
  objs i bl hp hlt := by
    obtain ⟨j, _, hj⟩ := b.objs i bl hp (Nat.lt_of_lt_of_le hlt a.size)
    exact a.objs j bl hj hlt
  tails i bl e hp hlt := by
    rcases b.tails i bl e hp (Nat.lt_of_lt_of_le hlt a.size) with ⟨j, e1, hj, hle⟩ | ⟨j, _, hj⟩
    · rcases a.tails j bl e1 hj hlt with ⟨j', e', hj', hle'⟩ | h
      · exact .inl ⟨j', e', hj', by omega⟩
      · exact .inr h
    · exact .inr (a.objs j bl hj hlt)
theorem ObOk.ext {φ φ' : List Pl} {w w' : World} (he : Ext φ w φ' w') {p : Pl} {o : Ho} (h : ObOk F φ w p o) (hb : ∀ b, p.blk = some b → w'.heap[b]? = w.heap[b]?) : ObOk F φ' w' p o := by
  cases p <;> cases o <;> simp only [ObOk, rowAt] at h ⊢
  · obtain ⟨arr, ⟨T, hr⟩, hz, hl, hd⟩ := h
    exact ⟨arr, ⟨T, by rw [hb _ rfl]; exact hr⟩, hz, hl, fun j v hv => let ⟨r, h1, h2, h3⟩ := hd j v hv; ⟨r, h1, h2, h3.ext he⟩⟩
  · obtain ⟨ents, clock, hr, hl, hd⟩ := h
    exact ⟨ents, clock, by rw [hb _ rfl]; exact hr, hl, fun j m e hm he' => ⟨(hd j m e hm he').1, ((hd j m e hm he').2).ext he⟩⟩
  · obtain ⟨arr, ⟨T, hr⟩, hl⟩ := h
    exact ⟨arr, ⟨T, by rw [hb _ rfl]; exact hr⟩, hl⟩
  · exact h
theorem Inv.step {φ φ' : List Pl} {w w' : World} {h h' : List Ho} (hi : Inv F φ w h) (he : Ext φ w φ' w') (hl : φ'.length = h'.length)
    (hok : ∀ (i : Nat) (p : Pl) (o : Ho), φ'[i]? = some p → h'[i]? = some o → (φ[i]? = some p ∧ h[i]? = some o ∧ ∀ b, p.blk = some b → w'.heap[b]? = w.heap[b]?) ∨ ObOk F φ' w' p o)
    (hap : ∀ (i j : Nat) (p q : Pl) (b : Nat), φ'[i]? = some p → φ'[j]? = some q → p.blk = some b → q.blk = some b → i = j)
    (hfr : ∀ (i : Nat) (p : Pl) (b : Nat), φ'[i]? = some p → p.blk = some b → (∃ (j : Nat) (q : Pl), φ[j]? = some q ∧ q.blk = some b) ∨ w.heap.size ≤ b) : Inv F φ' w' h' where
  frB b o hF := Nat.lt_of_lt_of_le (hi.frB b o hF) he.size
  frO i p b o hp hb hF := by
    rcases hfr i p b hp hb with ⟨j, q, h1, h2⟩ | h1
    · exact hi.frO j q b o h1 h2 hF
    · have := hi.frB b o hF; omega
  frK b x hx := by
    obtain ⟨h1, h2⟩ := hi.frK b x hx
    have hlt : b < w.heap.size := by
      rcases Nat.lt_or_ge b w.heap.size with h | h
      · exact h
      · rw [Array.getElem?_eq_none h] at h1; cases h1
    refine ⟨by rw [he.keep b hlt h2]; exact h1, fun i p hp hb => ?_⟩
    rcases hfr i p b hp hb with ⟨j, q, h3, h4⟩ | h3
    · exact h2 j q h3 h4
    · omega
  len := hl
  ok i p o hp ho := by
    rcases hok i p o hp ho with ⟨h1, h2, h3⟩ | h
    · exact (hi.ok i p o h1 h2).ext he h3
    · exact h
  apart := hap
theorem Inv.lt {φ : List Pl} {w : World} {h : List Ho} (hi : Inv F φ w h) {i : Nat} {p : Pl} {b : Nat} (hp : φ[i]? = some p) (hb : p.blk = some b) : b < w.heap.size := by
  have hlt : i < φ.length := by
    rcases Nat.lt_or_ge i φ.length with h | h
    · exact h
    · rw [List.getElem?_eq_none h] at hp; cases hp
  have ho : ∃ o, h[i]? = some o := ⟨h[i]'(by rw [← hi.len]; exact hlt), List.getElem?_eq_getElem _⟩
  obtain ⟨o, ho⟩ := ho
  have := hi.ok i p o hp ho
  have hx : ∀ x : Obj, w.heap[b]? = some x → b < w.heap.size := fun x hx => by
    rcases Nat.lt_or_ge b w.heap.size with h | h
    · exact h
    · rw [Array.getElem?_eq_none h] at hx; cases hx
  cases p <;> cases o <;> simp only [ObOk, rowAt, Pl.blk, Option.some.injEq, reduceCtorEq] at this hb <;> subst hb
  · obtain ⟨arr, ⟨T, hr⟩, _⟩ := this; exact hx _ hr
  · obtain ⟨ents, clock, hr, _⟩ := this; exact hx _ hr
  · obtain ⟨arr, ⟨T, hr⟩, _⟩ := this; exact hx _ hr
theorem Ext.more {φ : List Pl} {w w' : World} (hs : w.heap.size ≤ w'.heap.size) (hk : ∀ b, b < w.heap.size → w'.heap[b]? = w.heap[b]?) (hio : Still w w' := by first | exact ⟨rfl, rfl, rfl⟩ | assumption) : Ext φ w φ w' where
  size := hs
  io := hio
  len := Nat.le_refl _
  old _ _ := .inl rfl
  keep b hb _ := hk b hb
  tail i b e hi c T fr hc := ⟨c, by
    rw [hk b (by
      rcases Nat.lt_or_ge b w.heap.size with h | h
      · exact h
      · rw [Array.getElem?_eq_none h] at hc; cases hc)]; exact hc, rfl, fun _ _ => rfl⟩
  objs i b hi _ := ⟨i, _, hi⟩
  tails i b e hi _ := .inl ⟨i, e, hi, Nat.le_refl _⟩
theorem Inv.more {φ : List Pl} {w w' : World} {h : List Ho} (hi : Inv F φ w h) (hs : w.heap.size ≤ w'.heap.size) (hk : ∀ b, b < w.heap.size → w'.heap[b]? = w.heap[b]?) (hio : Still w w' := by first | exact ⟨rfl, rfl, rfl⟩ | assumption) : Inv F φ w' h :=
  hi.step (.more hs hk hio) hi.len (fun i p o hp ho => .inl ⟨hp, ho, fun b hb => hk b (hi.lt hp hb)⟩) hi.apart fun i p b hp hb => .inl ⟨i, p, hp, hb⟩
theorem more_alloc (w : World) (o : Obj) : w.heap.size ≤ (w.alloc o).heap.size ∧ ∀ b, b < w.heap.size → (w.alloc o).heap[b]? = w.heap[b]? :=
  ⟨by rw [World.size_alloc]; omega, fun b hb => by show (w.heap.push o)[b]? = _; rw [Array.getElem?_push, if_neg (Nat.ne_of_lt hb)]⟩
theorem get_snoc {α : Type} {l : List α} {x y : α} {i : Nat} (h : (l ++ [x])[i]? = some y) : (i < l.length ∧ l[i]? = some y) ∨ (i = l.length ∧ y = x) := by
  rcases Nat.lt_trichotomy i l.length with h1 | h1 | h1
  · rw [List.getElem?_append_left h1] at h; exact .inl ⟨h1, h⟩
  · subst h1; simp at h; exact .inr ⟨rfl, h.symm⟩
  · rw [List.getElem?_append_right (by omega), List.getElem?_eq_none (by simp; omega)] at h; cases h
theorem get_lt {α : Type} {l : List α} {i : Nat} {x : α} (h : l[i]? = some x) : i < l.length := by
  rcases Nat.lt_or_ge i l.length with h1 | h1
  · exact h1
  · rw [List.getElem?_eq_none h1] at h; cases h
theorem heap_lt {w : World} {b : Nat} {x : Obj} (h : w.heap[b]? = some x) : b < w.heap.size := by
  rcases Nat.lt_or_ge b w.heap.size with h1 | h1
  · exact h1
  · rw [Array.getElem?_eq_none h1] at h; cases h
theorem get_set {α : Type} {l : List α} {i j : Nat} {x y : α} (h : (l.set i x)[j]? = some y) : (j = i ∧ y = x ∧ i < l.length) ∨ (j ≠ i ∧ l[j]? = some y) := by
  rw [List.getElem?_set] at h
  by_cases e : i = j
  · subst e
    rw [if_pos rfl] at h
    by_cases hl : i < l.length
    · rw [if_pos hl] at h; cases h; exact .inl ⟨rfl, rfl, hl⟩
    · rw [if_neg hl] at h; cases h
  · rw [if_neg e] at h; exact .inr ⟨fun h => e h.symm, h⟩
theorem Ext.reserve (φ : List Pl) (w : World) : Ext φ w (φ ++ [.yet]) w where
  io := ⟨rfl, rfl, rfl⟩
  size := Nat.le_refl _
  len := by simp
  old i hi := by
    obtain ⟨p, hp, _⟩ := hi
    exact .inl (by rw [List.getElem?_append_left (get_lt hp)])
  keep b hb _ := rfl
  tail i b e hi c T fr hc := ⟨c, hc, rfl, fun _ _ => rfl⟩
  objs i b hi hb := by
    rcases get_snoc hi with ⟨_, h⟩ | ⟨_, h⟩
    · exact ⟨i, _, h⟩
    · cases h
  tails i b e hi hb := by
    rcases get_snoc hi with ⟨_, h⟩ | ⟨_, h⟩
    · exact .inl ⟨i, e, h, Nat.le_refl _⟩
    · cases h
theorem Inv.reserve {φ : List Pl} {w : World} {h : List Ho} (hi : Inv F φ w h) : Inv F (φ ++ [.yet]) w (h ++ [.yet]) := by
  refine hi.step (.reserve φ w) (by simp [hi.len]) (fun i q x hq hx => ?_) (fun i j q r b hq hr hb hb' => ?_) fun i q b hq hb => ?_
  · rcases get_snoc hq with ⟨h1, h2⟩ | ⟨h1, h2⟩
    · rcases get_snoc hx with ⟨h3, h4⟩ | ⟨h3, h4⟩
      · exact .inl ⟨h2, h4, fun _ _ => rfl⟩
      · rw [hi.len] at h1; omega
    · rcases get_snoc hx with ⟨h3, h4⟩ | ⟨h3, h4⟩
      · rw [← hi.len] at h3; omega
      · subst h2 h4; exact .inr trivial
  · rcases get_snoc hq with ⟨h1, h2⟩ | ⟨h1, h2⟩ <;> rcases get_snoc hr with ⟨h3, h4⟩ | ⟨h3, h4⟩
    · exact hi.apart i j q r b h2 h4 hb hb'
    · subst h4; cases hb'
    · subst h2; cases hb
    · omega
  · rcases get_snoc hq with ⟨_, h2⟩ | ⟨_, h2⟩
    · exact .inl ⟨i, q, h2, hb⟩
    · subst h2; cases hb
theorem Ext.fill {φ : List Pl} {w w' : World} {r : Nat} (p : Pl) (hr : φ[r]? = some .yet) (hs : w.heap.size ≤ w'.heap.size) (hk : ∀ b, b < w.heap.size → w'.heap[b]? = w.heap[b]?) (hp : ∀ b, p.blk = some b → w.heap.size ≤ b) (hio : Still w w' := by first | exact ⟨rfl, rfl, rfl⟩ | assumption) : Ext φ w (φ.set r p) w' where
  size := hs
  io := hio
  len := by simp
  old i hi := by
    obtain ⟨q, hq, hne⟩ := hi
    have : i ≠ r := fun e => by subst e; rw [hr] at hq; cases hq; exact hne rfl
    exact .inl (by rw [List.getElem?_set_ne (fun e => this e.symm)])
  keep b hb _ := hk b hb
  tail i b e hi c T fr hc := (Ext.more (φ := φ) hs hk hio).tail i b e hi c T fr hc
  objs i b hi hb := by
    rcases get_set hi with ⟨_, h, _⟩ | ⟨_, h⟩
    · have := hp b (by rw [← h]; rfl); omega
    · exact ⟨i, _, h⟩
  tails i b e hi hb := by
    rcases get_set hi with ⟨_, h, _⟩ | ⟨_, h⟩
    · have := hp b (by rw [← h]; rfl); omega
    · exact .inl ⟨i, e, h, Nat.le_refl _⟩
theorem Inv.fill {φ : List Pl} {w w' : World} {h : List Ho} (hi : Inv F φ w h) {r : Nat} (p : Pl) (o : Ho) (hr : φ[r]? = some .yet) (hs : w.heap.size ≤ w'.heap.size) (hk : ∀ b, b < w.heap.size → w'.heap[b]? = w.heap[b]?) (hp : ∀ b, p.blk = some b → w.heap.size ≤ b)
    (hok : ObOk F (φ.set r p) w' p o) (hio : Still w w' := by first | exact ⟨rfl, rfl, rfl⟩ | assumption) : Inv F (φ.set r p) w' (h.set r o) := by
  refine hi.step (.fill p hr hs hk hp hio) (by simp [hi.len]) (fun i q x hq hx => ?_) (fun i j q r2 b hq hr2 hb hb' => ?_) fun i q b hq hb => ?_
  · rcases get_set hq with ⟨rfl, rfl, _⟩ | ⟨h1, h2⟩
    · rcases get_set hx with ⟨_, rfl, _⟩ | ⟨h3, _⟩
      · exact .inr hok
      · exact absurd rfl h3
    · rcases get_set hx with ⟨e, _, _⟩ | ⟨_, h4⟩
      · exact absurd e h1
      · exact .inl ⟨h2, h4, fun b hb => hk b (hi.lt h2 hb)⟩
  · rcases get_set hq with ⟨rfl, rfl, _⟩ | ⟨h1, h2⟩ <;> rcases get_set hr2 with ⟨h3, h4, _⟩ | ⟨h3, h4⟩
    · exact h3.symm
    · have := hi.lt h4 hb'; have := hp b hb; omega
    · subst h4; have := hi.lt h2 hb; have := hp b hb'; omega
    · exact hi.apart i j q r2 b h2 h4 hb hb'
  · rcases get_set hq with ⟨_, rfl, _⟩ | ⟨_, h2⟩
    · exact .inr (hp b hb)
    · exact .inl ⟨i, q, h2, hb⟩
theorem Ext.atObj {φ : List Pl} {w w' : World} {i b z : Nat} (hb : φ[i]? = some (.obj b z)) (hap : ∀ (j : Nat) (q : Pl), φ[j]? = some q → q.blk = some b → j = i)
    (hs : w'.heap.size = w.heap.size) (hk : ∀ b', b' ≠ b → w'.heap[b']? = w.heap[b']?) (hio : Still w w' := by first | exact ⟨rfl, rfl, rfl⟩ | assumption) : Ext φ w φ w' where
  size := Nat.le_of_eq hs.symm
  io := hio
  len := Nat.le_refl _
  old _ _ := .inl rfl
  keep b' _ hno := hk b' fun e => hno i _ hb (by rw [e]; rfl)
  tail j b' e hj c T fr hc := by
    refine ⟨c, ?_, rfl, fun _ _ => rfl⟩
    rw [hk b' fun e' => ?_]
    · exact hc
    · subst e'
      have := hap j _ hj rfl
      subst this; rw [hb] at hj; cases hj
  objs j b' hj _ := ⟨j, _, hj⟩
  tails j b' e hj _ := .inl ⟨j, e, hj, Nat.le_refl _⟩
theorem Inv.atObj {φ : List Pl} {w w' : World} {h : List Ho} (hi : Inv F φ w h) {i b z : Nat} {o : Ho} (hb : φ[i]? = some (.obj b z))
    (hs : w'.heap.size = w.heap.size) (hk : ∀ b', b' ≠ b → w'.heap[b']? = w.heap[b']?) (hok : ObOk F φ w' (.obj b z) o) (hio : Still w w' := by first | exact ⟨rfl, rfl, rfl⟩ | assumption) : Inv F φ w' (h.set i o) := by
  have hap : ∀ (j : Nat) (q : Pl), φ[j]? = some q → q.blk = some b → j = i := fun j q hq hqb => hi.apart j i q _ b hq hb hqb rfl
  refine hi.step (.atObj hb hap hs hk hio) (by simp [hi.len]) (fun j p x hp hx => ?_) hi.apart fun i p b hp hb => .inl ⟨i, p, hp, hb⟩
  rcases get_set hx with ⟨rfl, rfl, _⟩ | ⟨hne, hx⟩
  · rw [hb] at hp; cases hp; exact .inr hok
  · refine .inl ⟨hp, hx, fun b' hb' => hk b' fun e => ?_⟩
    subst e; exact hne (hap j p hp hb')
theorem Ext.kill (φ : List Pl) (w : World) (i : Nat) : Ext φ w (φ.set i .dead) w where
  io := ⟨rfl, rfl, rfl⟩
  size := Nat.le_refl _
  len := by simp
  old j hj := by
    obtain ⟨q, hq, _⟩ := hj
    have hj := get_lt hq
    rw [List.getElem?_set]
    by_cases e : i = j
    · rw [if_pos e, if_pos (e ▸ hj)]; exact .inr rfl
    · rw [if_neg e]; exact .inl rfl
  keep _ _ _ := rfl
  tail j b e hj c T fr hc := ⟨c, hc, rfl, fun _ _ => rfl⟩
  objs j b hj _ := by
    rcases get_set hj with ⟨_, h, _⟩ | ⟨_, h⟩
    · cases h
    · exact ⟨j, _, h⟩
  tails j b e hj _ := by
    rcases get_set hj with ⟨_, h, _⟩ | ⟨_, h⟩
    · cases h
    · exact .inl ⟨j, e, h, Nat.le_refl _⟩
theorem Inv.kill {φ : List Pl} {w : World} {h : List Ho} (hi : Inv F φ w h) (i : Nat) : Inv F (φ.set i .dead) w (h.set i .dead) := by
  refine hi.step (.kill φ w i) (by simp [hi.len]) (fun j p x hp hx => ?_) (fun j k p q b hp hq hb hb' => ?_) fun j p b hp hb => by
    rcases get_set hp with ⟨_, rfl, _⟩ | ⟨_, hp⟩
    · cases hb
    · exact .inl ⟨j, p, hp, hb⟩
  · rcases get_set hp with ⟨rfl, rfl, _⟩ | ⟨hne, hp⟩
    · rcases get_set hx with ⟨_, rfl, _⟩ | ⟨hne, _⟩
      · exact .inr trivial
      · exact absurd rfl hne
    · rcases get_set hx with ⟨e, _, _⟩ | ⟨_, hx⟩
      · exact absurd e hne
      · exact .inl ⟨hp, hx, fun _ _ => rfl⟩
  · rcases get_set hp with ⟨_, rfl, _⟩ | ⟨_, hp⟩
    · cases hb
    · rcases get_set hq with ⟨_, rfl, _⟩ | ⟨_, hq⟩
      · cases hb'
      · exact hi.apart j k p q b hp hq hb hb'
theorem Ext.tailOn {φ : List Pl} {w w' : World} {t r b e e' : Nat} (hb : φ[t]? = some (.tail b e)) (hr : φ[r]? = some .yet) (hle : e ≤ e') (hap : ∀ (j : Nat) (q : Pl), φ[j]? = some q → q.blk = some b → j = t)
    (hs : w'.heap.size = w.heap.size) (hk : ∀ b', b' ≠ b → w'.heap[b']? = w.heap[b']?)
    (hc : ∀ c T fr, w.heap[b]? = some (.cells c T fr) → ∃ c', w'.heap[b]? = some (.cells c' T fr) ∧ c'.size = c.size ∧ ∀ o : Nat, o < e → c'[o]? = c[o]?) (hio : Still w w' := by first | exact ⟨rfl, rfl, rfl⟩ | assumption) : Ext φ w ((φ.set t .dead).set r (.tail b e')) w' where
  size := Nat.le_of_eq hs.symm
  io := hio
  len := by simp
  old j hj := by
    have hne : j ≠ r := fun e => by
      subst e
      obtain ⟨q, hq, hqn⟩ := hj
      rw [hr] at hq; cases hq; exact hqn rfl
    rw [List.getElem?_set_ne (fun e => hne e.symm)]
    exact (Ext.kill φ w t).old j hj
  keep b' _ hno := hk b' fun e => hno t _ hb (by rw [e]; rfl)
  tail j b' e2 hj c T fr h2 := by
    by_cases e1 : b' = b
    · subst e1
      have := hap j _ hj rfl
      subst this; rw [hb] at hj; cases hj
      exact hc c T fr h2
    · exact ⟨c, by rw [hk b' e1]; exact h2, rfl, fun _ _ => rfl⟩
  objs j b' hj hlt := by
    rcases get_set hj with ⟨_, h, _⟩ | ⟨_, h⟩
    · cases h
    · exact (Ext.kill φ w t).objs j b' h hlt
  tails j b' e2 hj hlt := by
    rcases get_set hj with ⟨_, h, _⟩ | ⟨_, h⟩
    · cases h; exact .inl ⟨t, e, hb, hle⟩
    · exact (Ext.kill φ w t).tails j b' e2 h hlt
theorem Inv.tailOn {φ : List Pl} {w w' : World} {h : List Ho} (hi : Inv F φ w h) {t r b e e' : Nat} (hb : φ[t]? = some (.tail b e)) (hr : φ[r]? = some .yet) (hle : e ≤ e')
    (hs : w'.heap.size = w.heap.size) (hk : ∀ b', b' ≠ b → w'.heap[b']? = w.heap[b']?)
    (hc : ∀ c T fr, w.heap[b]? = some (.cells c T fr) → ∃ c', w'.heap[b]? = some (.cells c' T fr) ∧ c'.size = c.size ∧ ∀ o : Nat, o < e → c'[o]? = c[o]?)
    (hfit : ∀ c T fr, w'.heap[b]? = some (.cells c T fr) → e' ≤ c.size) (hio : Still w w' := by first | exact ⟨rfl, rfl, rfl⟩ | assumption) : Inv F ((φ.set t .dead).set r (.tail b e')) w' ((h.set t .dead).set r .tail) := by
  have hap : ∀ (j : Nat) (q : Pl), φ[j]? = some q → q.blk = some b → j = t := fun j q hq hqb => hi.apart j t q _ b hq hb hqb rfl
  have hlt := get_lt hb
  -- an entry of the new list
  have cs : ∀ (j : Nat) (p : Pl), ((φ.set t .dead).set r (.tail b e'))[j]? = some p → (j = r ∧ p = .tail b e') ∨ (j ≠ r ∧ j = t ∧ p = .dead) ∨ (j ≠ r ∧ j ≠ t ∧ φ[j]? = some p) := fun j p hp => by
    rcases get_set hp with ⟨h1, h2, _⟩ | ⟨h1, h2⟩
    · exact .inl ⟨h1, h2⟩
    · rcases get_set h2 with ⟨h3, h4, _⟩ | ⟨h3, h4⟩
      · exact .inr (.inl ⟨h1, h3, h4⟩)
      · exact .inr (.inr ⟨h1, h3, h4⟩)
  have hx : ∀ (j : Nat) (p : Pl), ((φ.set t .dead).set r (.tail b e'))[j]? = some p → p.blk = some b → j = r := fun j p hp hpb => by
    rcases cs j p hp with ⟨h1, _⟩ | ⟨_, _, h3⟩ | ⟨_, h2, h3⟩
    · exact h1
    · subst h3; cases hpb
    · exact absurd (hap j p h3 hpb) h2
  refine hi.step (.tailOn hb hr hle hap hs hk hc hio) (by simp [hi.len]) (fun j p x hp hx' => ?_) (fun j k p q b' hp hq hb1 hb2 => ?_) fun j p b2 hp hpb => by
    rcases cs j p hp with ⟨_, h2⟩ | ⟨_, _, h3⟩ | ⟨_, _, h3⟩
    · subst h2; exact .inl ⟨t, _, hb, hpb⟩
    · subst h3; cases hpb
    · exact .inl ⟨j, p, h3, hpb⟩
  · rcases cs j p hp with ⟨h1, h2⟩ | ⟨h1, h2, h3⟩ | ⟨h1, h2, h3⟩
    · subst h1 h2
      have ho : ∃ o, h[t]? = some o := ⟨h[t]'(by rw [← hi.len]; exact hlt), List.getElem?_eq_getElem _⟩
      obtain ⟨o, ho⟩ := ho
      have := hi.ok t _ o hb ho
      rcases get_set hx' with ⟨_, rfl, _⟩ | ⟨hne, _⟩
      · refine .inr ?_
        cases o <;> simp only [ObOk, rowAt] at this
        obtain ⟨arr, ⟨T, hr⟩, _⟩ := this
        obtain ⟨c', h1, h2, _⟩ := hc arr T _ hr
        exact ⟨c', ⟨T, h1⟩, hfit _ _ _ h1⟩
      · exact absurd rfl hne
    · subst h2 h3
      rcases get_set hx' with ⟨e, _, _⟩ | ⟨_, hx'⟩
      · exact absurd e h1
      · rcases get_set hx' with ⟨_, rfl, _⟩ | ⟨hne, _⟩
        · exact .inr trivial
        · exact absurd rfl hne
    · rcases get_set hx' with ⟨e, _, _⟩ | ⟨_, hx'⟩
      · exact absurd e h1
      · rcases get_set hx' with ⟨e, _, _⟩ | ⟨_, hx'⟩
        · exact absurd e h2
        · exact .inl ⟨h3, hx', fun b' hb' => hk b' fun e => by subst e; exact h2 (hap j p h3 hb')⟩
  · by_cases e1 : b' = b
    · subst e1; rw [hx j p hp hb1, hx k q hq hb2]
    · have old : ∀ (j : Nat) (p : Pl), ((φ.set t .dead).set r (.tail b e'))[j]? = some p → p.blk = some b' → φ[j]? = some p := fun j p hp hpb => by
        rcases cs j p hp with ⟨_, h2⟩ | ⟨_, _, h3⟩ | ⟨_, _, h3⟩
        · subst h2; simp only [Pl.blk, Option.some.injEq] at hpb; exact absurd hpb.symm e1
        · subst h3; cases hpb
        · exact h3
      exact hi.apart j k p q b' (old j p hp hb1) (old k q hq hb2) hb1 hb2
theorem Ext.objOn {φ : List Pl} {w w' : World} {t r b z : Nat} (hb : φ[t]? = some (.obj b z)) (hr : φ[r]? = some .yet) (hap : ∀ (j : Nat) (q : Pl), φ[j]? = some q → q.blk = some b → j = t)
    (hs : w'.heap.size = w.heap.size) (hk : ∀ b', b' ≠ b → w'.heap[b']? = w.heap[b']?) (hio : Still w w' := by first | exact ⟨rfl, rfl, rfl⟩ | assumption) : Ext φ w ((φ.set t .dead).set r (.obj b z)) w' where
  size := Nat.le_of_eq hs.symm
  io := hio
  len := by simp
  old j hj := by
    have hne : j ≠ r := fun e => by
      subst e
      obtain ⟨q, hq, hqn⟩ := hj
      rw [hr] at hq; cases hq; exact hqn rfl
    rw [List.getElem?_set_ne (fun e => hne e.symm)]
    exact (Ext.kill φ w t).old j hj
  keep b' _ hno := hk b' fun e => hno t _ hb (by rw [e]; rfl)
  tail j b' e2 hj c T fr h2 := by
    by_cases e1 : b' = b
    · subst e1
      have := hap j _ hj rfl
      subst this; rw [hb] at hj; cases hj
    · exact ⟨c, by rw [hk b' e1]; exact h2, rfl, fun _ _ => rfl⟩
  objs j b' hj hlt := by
    rcases get_set hj with ⟨_, h, _⟩ | ⟨_, h⟩
    · cases h; exact ⟨t, _, hb⟩
    · exact (Ext.kill φ w t).objs j b' h hlt
  tails j b' e2 hj hlt := by
    rcases get_set hj with ⟨_, h, _⟩ | ⟨_, h⟩
    · cases h
    · exact (Ext.kill φ w t).tails j b' e2 h hlt
theorem Inv.objOn {φ : List Pl} {w w' : World} {h : List Ho} (hi : Inv F φ w h) {t r b z : Nat} {ob : Ho} (hb : φ[t]? = some (.obj b z)) (hr : φ[r]? = some .yet)
    (hs : w'.heap.size = w.heap.size) (hk : ∀ b', b' ≠ b → w'.heap[b']? = w.heap[b']?) (hok : ObOk F ((φ.set t .dead).set r (.obj b z)) w' (.obj b z) ob)
    (hio : Still w w' := by first | exact ⟨rfl, rfl, rfl⟩ | assumption) : Inv F ((φ.set t .dead).set r (.obj b z)) w' ((h.set t .dead).set r ob) := by
  have hap : ∀ (j : Nat) (q : Pl), φ[j]? = some q → q.blk = some b → j = t := fun j q hq hqb => hi.apart j t q _ b hq hb hqb rfl
  have cs : ∀ (j : Nat) (p : Pl), ((φ.set t .dead).set r (.obj b z))[j]? = some p → (j = r ∧ p = .obj b z) ∨ (j ≠ r ∧ j = t ∧ p = .dead) ∨ (j ≠ r ∧ j ≠ t ∧ φ[j]? = some p) := fun j p hp => by
    rcases get_set hp with ⟨h1, h2, _⟩ | ⟨h1, h2⟩
    · exact .inl ⟨h1, h2⟩
    · rcases get_set h2 with ⟨h3, h4, _⟩ | ⟨h3, h4⟩
      · exact .inr (.inl ⟨h1, h3, h4⟩)
      · exact .inr (.inr ⟨h1, h3, h4⟩)
  have hx : ∀ (j : Nat) (p : Pl), ((φ.set t .dead).set r (.obj b z))[j]? = some p → p.blk = some b → j = r := fun j p hp hpb => by
    rcases cs j p hp with ⟨h1, _⟩ | ⟨_, _, h3⟩ | ⟨_, h2, h3⟩
    · exact h1
    · subst h3; cases hpb
    · exact absurd (hap j p h3 hpb) h2
  refine hi.step (.objOn hb hr hap hs hk hio) (by simp [hi.len]) (fun j p x hp hx' => ?_) (fun j k p q b' hp hq hb1 hb2 => ?_) fun j p b2 hp hpb => by
    rcases cs j p hp with ⟨_, h2⟩ | ⟨_, _, h3⟩ | ⟨_, _, h3⟩
    · subst h2; exact .inl ⟨t, _, hb, hpb⟩
    · subst h3; cases hpb
    · exact .inl ⟨j, p, h3, hpb⟩
  · rcases cs j p hp with ⟨h1, h2⟩ | ⟨h1, h2, h3⟩ | ⟨h1, h2, h3⟩
    · subst h1 h2
      rcases get_set hx' with ⟨_, rfl, _⟩ | ⟨hne, _⟩
      · exact .inr hok
      · exact absurd rfl hne
    · subst h2 h3
      rcases get_set hx' with ⟨e, _, _⟩ | ⟨_, hx'⟩
      · exact absurd e h1
      · rcases get_set hx' with ⟨_, rfl, _⟩ | ⟨hne, _⟩
        · exact .inr trivial
        · exact absurd rfl hne
    · rcases get_set hx' with ⟨e, _, _⟩ | ⟨_, hx'⟩
      · exact absurd e h1
      · rcases get_set hx' with ⟨e, _, _⟩ | ⟨_, hx'⟩
        · exact absurd e h2
        · exact .inl ⟨h3, hx', fun b' hb' => hk b' fun e => by subst e; exact h2 (hap j p h3 hb')⟩
  · by_cases e1 : b' = b
    · subst e1; rw [hx j p hp hb1, hx k q hq hb2]
    · have old : ∀ (j : Nat) (p : Pl), ((φ.set t .dead).set r (.obj b z))[j]? = some p → p.blk = some b' → φ[j]? = some p := fun j p hp hpb => by
        rcases cs j p hp with ⟨_, h2⟩ | ⟨_, _, h3⟩ | ⟨_, _, h3⟩
        · subst h2; simp only [Pl.blk, Option.some.injEq] at hpb; exact absurd hpb.symm e1
        · subst h3; cases hpb
        · exact h3
      exact hi.apart j k p q b' (old j p hp hb1) (old k q hq hb2) hb1 hb2
end
section
open Go Go.RowKit
set_option linter.unusedVariables false
set_option linter.unusedSimpArgs false
def szT (P : Program) (t : TypeId) : Option Nat := (P.info? t).map (·.size)
def byT (P : Program) (t : TypeId) : Option Nat := (P.info? t).map (·.bytes)
def zeroT (P : Program) (t : TypeId) : Option Value := (P.info? t).bind (·.zero)
def aggT (P : Program) (t : TypeId) : Bool := match P.underlying t with
  | some (.struct _) | some (.array _ _) => true
  | _ => false
def constV : Value → Option V
  | .agg cs => if cs.all flat then some (.agg (cs.toList.map V.sc)) else none
  | .tuple vs => if vs.size = 0 then some .undef else none
  | v => if flat v then some (.sc v) else none
def evV (tm : List V) : Operand → Option V
  | .tmp t => tm[t]?
  | .const v => constV v
  | .global _ => none
  | .func f => some (.fn f [])
def intBin (op : BinOp) (k : IntKind) (x y : Int) : Option Value :=
  match op with
  | .add => some (.int k (k.wrap (x + y)))
  | .sub => some (.int k (k.wrap (x - y)))
  | .mul => some (.int k (k.wrap (x * y)))
  | .quo => if y = 0 then none else some (.int k (k.wrap (x.tdiv y)))
  | .rem => if y = 0 then none else some (.int k (x.tmod y))
  | .and => some (.int k (k.wrap (BitVec.ofInt k.bits x &&& BitVec.ofInt k.bits y).toNat))
  | .or => some (.int k (k.wrap (BitVec.ofInt k.bits x ||| BitVec.ofInt k.bits y).toNat))
  | .xor => some (.int k (k.wrap (BitVec.ofInt k.bits x ^^^ BitVec.ofInt k.bits y).toNat))
  | .andNot => some (.int k (k.wrap (BitVec.ofInt k.bits x &&& ~~~ BitVec.ofInt k.bits y).toNat))
  | .eql => some (.bool (x == y))
  | .neq => some (.bool (x != y))
  | .lss => some (.bool (decide (x < y)))
  | .leq => some (.bool (decide (x ≤ y)))
  | .gtr => some (.bool (decide (x > y)))
  | .geq => some (.bool (decide (x ≥ y)))
  | _ => none
def strBin (op : BinOp) (x y : ByteArray) : Option Value :=
  match op with
  | .add => if x.size + y.size ≤ 140737488355328 then some (.string (x ++ y)) else none
  | .eql => some (.bool (x.toList == y.toList))
  | .neq => some (.bool !(x.toList == y.toList))
  | .lss => some (.bool (Op.bytesLess x.toList y.toList))
  | .leq => some (.bool (Op.bytesLess x.toList y.toList || x.toList == y.toList))
  | .gtr => some (.bool !(Op.bytesLess x.toList y.toList || x.toList == y.toList))
  | .geq => some (.bool !(Op.bytesLess x.toList y.toList))
  | _ => none
def scBin (P : Program) (op : BinOp) (t : TypeId) (a b : Value) : Option Value :=
  match a, b with
  | .int k x, .int k' y =>
    match op with
    | .shl => if y < 0 then none else some (.int k (k.wrap (x * 2 ^ (min y.toNat k.bits))))
    | .shr => if y < 0 then none else some (.int k (x.fdiv (2 ^ (min y.toNat k.bits))))
    | op => if k = k' then intBin op k x y else none
  | .string x, .string y => strBin op x y
  | .bool x, .bool y =>
    match P.underlying t, op with
    | some .bool, .eql => some (.bool (x == y))
    | some .bool, .neq => some (.bool !(x == y))
    | _, _ => none
  | .pointer none, .pointer none =>
    match P.underlying t, op with
    | some (.pointer _), .eql => some (.bool true)
    | some (.pointer _), .neq => some (.bool false)
    | _, _ => none
  | .slice none 0 0, .slice none 0 0 =>
    match P.underlying t, op with
    | some (.slice _), .eql => some (.bool true)
    | some (.slice _), .neq => some (.bool false)
    | _, _ => none
  | .map none, .map none =>
    match P.underlying t, op with
    | some (.map _ _), .eql => some (.bool true)
    | some (.map _ _), .neq => some (.bool false)
    | _, _ => none
  | _, _ => none
def eqInts : List V → List V → Option Bool
  | [], [] => some true
  | .d (.sc (.int k a)) :: xs, .d (.sc (.int k' b)) :: ys => if k = k' then (eqInts xs ys).map fun r => (a == b) && r else none
  | _, _ => none
def isIntT (P : Program) (t : TypeId) : Bool := match P.underlying t with
  | some (.int _) => true
  | _ => false
def eqKind (P : Program) (t : TypeId) : Option Nat := match P.underlying t with
  | some (.int _) => some 0
  | some .bool => some 1
  | some .string => some 2
  | _ => none
def eqPlanL (P : Program) : List Field → Option (List (Nat × Nat))
  | [] => some []
  | f :: fs => if f.name = "_" then none else match eqKind P f.type, eqPlanL P fs with
    | some k, some l => some ((k, f.offset) :: l)
    | _, _ => none
def eqPlan (P : Program) (t : TypeId) : Option (List (Nat × Nat)) := match P.underlying t with
  | some (.struct fs) => if P.stoodInHeld t = true ∨ P.eqGuardType P.depth t = true then none else eqPlanL P fs.toList
  | _ => none
def eqStep : Nat → V → V → Option Bool
  | 0, .d (.sc (.int k a)), .d (.sc (.int k' b)) => if k = k' then some (a == b) else none
  | 1, .d (.sc (.bool a)), .d (.sc (.bool b)) => some (a == b)
  | 2, .d (.sc (.string a)), .d (.sc (.string b)) => some (a.toList == b.toList)
  | _, _, _ => none
def eqSteps : List (Nat × Nat) → List V → List V → Option Bool
  | [], _, _ => some true
  | (k, o) :: l, xs, ys => match xs[o]?, ys[o]? with
    | some x, some y => match eqStep k x y, eqSteps l xs ys with
      | some a, some b => some (a && b)
      | _, _ => none
    | _, _ => none
def eqV (P : Program) (t : TypeId) (xs ys : List V) : Option Bool :=
  match P.underlying t with
  | some (.array n e) => if isIntT P e = true ∧ szT P e = some 1 ∧ P.eqGuardType P.depth t = false ∧ xs.length = n ∧ ys.length = n then eqInts xs ys else none
  | some (.struct _) => match eqPlan P t with
    | some l => eqSteps l xs ys
    | none => none
  | _ => none
def isPtrT (P : Program) (t : TypeId) : Bool := match P.underlying t with
  | some (.pointer _) => true
  | _ => false
def isSliceT (P : Program) (t : TypeId) : Bool := match P.underlying t with
  | some (.slice _) => true
  | _ => false
def isMapT (P : Program) (t : TypeId) : Bool := match P.underlying t with
  | some (.map _ _) => true
  | _ => false
def nilCmp (P : Program) (op : BinOp) (t : TypeId) (e : Bool) : Option V :=
  if isSliceT P t = true ∧ (op = .eql ∨ op = .neq) then some (match e with
    | true => .ub
    | false => .sc (.bool (match op with
      | .eql => false
      | _ => true))) else none
def binV (P : Program) (op : BinOp) (t : TypeId) : V → V → Option V
  | .d (.sc a), .d (.sc b) => (scBin P op t a b).map V.sc
  | .ptr _ _, .d (.sc (.pointer none)) => if isPtrT P t then match op with
    | .eql => some (.sc (.bool false))
    | .neq => some (.sc (.bool true))
    | _ => none else none
  | .hs _ _ _ _ n, .d (.sc (.slice none 0 0)) => nilCmp P op t (n == 0)
  | .d (.sl _ es), .d (.sc (.slice none 0 0)) => nilCmp P op t es.isEmpty
  | .own _ es _, .d (.sc (.slice none 0 0)) => nilCmp P op t es.isEmpty
  | .full _ es, .d (.sc (.slice none 0 0)) => nilCmp P op t es.isEmpty
  | .mp _, .d (.sc (.map none)) => if isMapT P t then match op with
    | .eql => some (.sc (.bool false))
    | .neq => some (.sc (.bool true))
    | _ => none else none
  | .agg xs, .agg ys => match op with
    | .eql => (eqV P t xs ys).map fun b => .sc (.bool b)
    | .neq => (eqV P t xs ys).map fun b => .sc (.bool !b)
    | _ => none
  | _, _ => none
def unV (op : UnOp) : V → Option V
  | .d (.sc (.int k n)) => match op with
    | .neg => some (.sc (.int k (k.wrap (0 - n))))
    | .xor => some (.sc (.int k (k.wrap (BitVec.ofInt k.bits (if k.signed then -1 else k.max) ^^^ BitVec.ofInt k.bits n).toNat)))
    | _ => none
  | .d (.sc (.bool b)) => match op with
    | .not => some (.sc (.bool !b))
    | _ => none
  | .ub => match op with
    | .not => some .ub
    | _ => none
  | _ => none
def esOf (k : Nat) : V → Option (List (List D))
  | .d (.sl k' es) => if k' = k then some es else none
  | .own k' es _ => if k' = k then some es else none
  | .full k' es => if k' = k then some es else none
  | .d (.sc (.slice none 0 0)) => some []
  | _ => none
def bs (l : List UInt8) : List (List D) := l.map fun b => [.sc (.int .u8 b.toNat)]
def unbs : List (List D) → Option (List UInt8)
  | [] => some []
  | [.sc (.int .u8 n)] :: es => if 0 ≤ n ∧ n < 256 then (unbs es).map fun l => UInt8.ofNat n.toNat :: l else none
  | _ => none
def toD : V → Option D
  | .d x => some x
  | .own k es _ => some (.sl k es)
  | .full k es => some (.sl k es)
  | _ => none
def toDs : List V → Option (List D)
  | [] => some []
  | v :: vs => match toD v, toDs vs with
    | some x, some xs => some (x :: xs)
    | _, _ => none
def isOne : V → Bool
  | .agg _ | .tup _ | .any => false
  | _ => true
def cellsV : V → List V
  | .agg cs => cs
  | v => [v]
def knownT (P : Program) (t : TypeId) : Bool := (P.underlying t).isSome
def loadV (P : Program) (h : List Ho) (t : TypeId) : V → Option V
  | .ptr o off => match h[o]? with
    | some (.cells cs) =>
      if aggT P t then match szT P t with
        | some n => if off + n ≤ cs.length then some (.agg ((cs.drop off).take n)) else none
        | none => none
      else cs[off]?
    | _ => none
  | .ep cs off =>
      if aggT P t then match szT P t with
        | some n => if off + n ≤ cs.length then some (.agg (((cs.drop off).take n).map V.d)) else none
        | none => none
      else (cs[off]?).map V.d
  | _ => none
def storeV (P : Program) (h : List Ho) (t : TypeId) (p v : V) : Option (List Ho) :=
  match p with
  | .ptr o off => match h[o]? with
    | some (.cells cs) => if szT P t = some (cellsV v).length ∧ (cellsV v).all isOne = true ∧ off + (cellsV v).length ≤ cs.length
        then some (h.set o (.cells (cs.take off ++ cellsV v ++ cs.drop (off + (cellsV v).length)))) else none
    | _ => none
  | _ => none
def fieldOf (P : Program) (s : TypeId) (f : Nat) : Option (Nat × TypeId) := match P.underlying s with
  | some (.struct fs) => match fs[f]? with
    | some x => if szT P x.type = none ∨ szT P x.type = some 0 then none else some (x.offset, x.type)
    | none => none
  | _ => none
def partV (P : Program) (t : TypeId) (cs : List V) (off : Nat) : Option V :=
  if aggT P t then match szT P t with
    | some n => some (.agg ((cs.drop off).take n))
    | none => none
  else cs[off]?
def intOfV : V → Option Int
  | .d (.sc (.int _ n)) => some n
  | _ => none
def sliceTV (P : Program) (t : TypeId) : Option Nat := match P.underlying t with
  | some (.slice e) => szT P e
  | _ => none
def indexAtV (P : Program) (t : TypeId) (x i : V) : Option V :=
  match intOfV i with
  | none => none
  | some n =>
    if 0 ≤ n then
      match P.underlying t, x with
      | some (.slice e), x => match szT P e with
        | some k => match x with
          | .hs _ k' o off len => if k' = k ∧ n < len then some (.ptr o (off + n.toNat * k)) else none
          | x => match esOf k x with
            | some es => (es[n.toNat]?).map fun c => .ep c 0
            | none => none
        | none => none
      | some (.array len e), .ptr o off => match szT P e with
        | some k => if n < len then some (.ptr o (off + n.toNat * k)) else none
        | none => none
      | some (.array len e), .ep c off => match szT P e with
        | some k => if n < len then some (.ep c (off + n.toNat * k)) else none
        | none => none
      | _, _ => none
    else none
def indexV (P : Program) (t : TypeId) (x i : V) : Option V :=
  match intOfV i with
  | none => none
  | some n =>
    if 0 ≤ n then
      match P.underlying t, x with
      | some (.array len e), .agg cs => match szT P e with
        | some k => if n < len ∧ knownT P e = true then partV P e cs (n.toNat * k) else none
        | none => none
      | some .string, .d (.sc (.string s)) => (s.toList[n.toNat]?).map fun b => .sc (.int .u8 b.toNat)
      | _, _ => none
    else none
def boundOf : Option V → Nat → Option Int
  | none, d => some d
  | some v, _ => intOfV v
def cutH (g : Bool) (k o off n : Nat) (lo hi : Option V) : Option V := match boundOf lo 0, boundOf hi n with
  | some l, some h => if 0 ≤ l ∧ l ≤ h ∧ h ≤ n then some (.hs (g && l == 0) k o (off + l.toNat * k) (h - l).toNat) else none
  | _, _ => none
def sliceV (P : Program) (t : TypeId) (x : V) (lo hi mx : Option V) : Option V :=
  match P.underlying t with
  | some .string => match x, mx with
    | .d (.sc (.string s)), none => match boundOf lo 0, boundOf hi s.size with
      | some l, some h => if 0 ≤ l ∧ l ≤ h ∧ h ≤ s.size then some (.sc (.string (s.extract l.toNat h.toNat))) else none
      | _, _ => none
    | _, _ => none
  | some (.pointer u) => match x, mx, P.underlying u with
    | .ptr o off, none, some (.array n e) => match szT P e with
      | some k => if n ≤ 9223372036854775807 then cutH false k o off n lo hi else none
      | none => none
    | _, _, _ => none
  | some (.array n e) => match x, mx with
    | .ptr o off, none => match szT P e with
      | some k => if n ≤ 9223372036854775807 then cutH false k o off n lo hi else none
      | none => none
    | _, _ => none
  | some (.slice e) => match szT P e with
    | some k => match x with
     | .hs g k' o off n => if k' = k ∧ mx.isNone = true then cutH g k o off n lo hi else none
     | x => match esOf k x with
      | some es => match boundOf lo 0, boundOf hi es.length, mx with
        | some l, some h, none => if 0 ≤ l ∧ l ≤ h ∧ h ≤ es.length then some (.sl k ((es.take h.toNat).drop l.toNat)) else none
        | some l, some h, some m => if 0 ≤ l ∧ l ≤ h ∧ h ≤ es.length ∧ hi.isSome = true ∧ intOfV m = some h then some (.full k ((es.take h.toNat).drop l.toNat)) else none
        | _, _, _ => none
      | none => none
    | none => none
  | _ => none
def fillV (place : Nat → Option (Nat × Nat)) (cells : List V) : List (Nat × V) → Option (List V)
  | [] => some cells
  | (i, v) :: rest => match place i with
    | some (off, size) => if (cellsV v).length = size ∧ off + size ≤ cells.length ∧ (cellsV v).all isOne = true then fillV place (cells.take off ++ cellsV v ++ cells.drop (off + size)) rest else none
    | none => none
def placesT (P : Program) (t : TypeId) : Option (List (Nat × Nat)) := match P.underlying t with
  | some (.struct fs) => fs.toList.mapM fun f => (P.info? f.type).map fun i => (f.offset, i.size)
  | _ => none
def elemT (P : Program) (t : TypeId) : Option Nat := match P.underlying t with
  | some (.array _ e) => szT P e
  | _ => none
def placeOf (P : Program) (t : TypeId) (i : Nat) : Option (Nat × Nat) := match placesT P t with
  | some l => l[i]?
  | none => (elemT P t).map fun n => (i * n, n)
def shapeT (P : Program) (t : TypeId) : Bool := (placesT P t).isSome || (elemT P t).isSome
def zeroVs (P : Program) (t : TypeId) : Option (List V) := match zeroT P t with
  | some z => if z.cells.all flat then some (z.cells.toList.map V.sc) else none
  | none => none
def evParts (tm : List V) : List (Nat × Operand) → Option (List (Nat × V))
  | [] => some []
  | (i, x) :: r => match evV tm x, evParts tm r with
    | some v, some vs => some ((i, v) :: vs)
    | _, _ => none
def evArgs (tm : List V) : List Operand → Option (List V)
  | [] => some []
  | x :: r => match evV tm x, evArgs tm r with
    | some v, some vs => some (v :: vs)
    | _, _ => none
def evOpt (tm : List V) : Option Operand → Option (Option V)
  | none => some none
  | some x => (evV tm x).map some
def partsEs (k : Nat) (es : List (List D)) : List (Nat × V) → Option (List (List D))
  | [] => some es
  | (i, v) :: r => match toDs (cellsV v) with
    | some c => if c.length = k ∧ i < es.length then partsEs k (es.set i c) r else none
    | none => none
def buildSliceV (P : Program) (t : TypeId) (len : Nat) (parts : List (Nat × V)) : Option V :=
  match P.underlying t with
  | some (.slice e) => match szT P e, zeroT P e with
    | some k, some z => if 0 < k ∧ len * k ≤ 16777216 ∧ z.cells.size = k ∧ z.cells.all flat = true then
        (partsEs k (List.replicate len (z.cells.toList.map D.sc)) parts).map fun es => .full k es else none
    | _, _ => none
  | _ => none
def zeros {α : Type} (n : Nat) (e : α) : List α := List.replicate n e
def makeSliceV (P : Program) (t : TypeId) (l c : Option Int) : Option V :=
  match l, c, P.underlying t with
  | some n, some m, some (.slice e) => match szT P e, byT P e, zeroT P e with
    | some k, some b, some z => if 0 < k ∧ 0 ≤ n ∧ n = m ∧ n.toNat * k ≤ 16777216 ∧ b * n.toNat ≤ 281474976710656 ∧ z.cells.size = k ∧ z.cells.all flat = true then
        some (.full k (zeros n.toNat (z.cells.toList.map D.sc))) else none
    | _, _, _ => none
  | _, _, _ => none
def buildSliceH (P : Program) (r : Nat) (t : TypeId) (len : Nat) (parts : List (Nat × V)) : Option (V × Ho) :=
  match P.underlying t with
  | some (.slice e) => match szT P e, zeroT P e with
    | some k, some z => if 0 < k ∧ len * k ≤ 16777216 ∧ z.cells.size = k ∧ z.cells.all flat = true then
        (fillV (fun i => some (i * k, k)) (List.replicate len (z.cells.toList.map V.sc)).flatten parts).map fun cs => (.hs true k r 0 len, .cells cs) else none
    | _, _ => none
  | _ => none
def makeSliceH (P : Program) (r : Nat) (t : TypeId) (l c : Option Int) : Option (V × Ho) :=
  match l, c, P.underlying t with
  | some n, some m, some (.slice e) => match szT P e, byT P e, zeroT P e with
    | some k, some b, some z => if 0 < k ∧ 0 ≤ n ∧ n = m ∧ n.toNat * k ≤ 16777216 ∧ b * n.toNat ≤ 281474976710656 ∧ z.cells.size = k ∧ z.cells.all flat = true then
        some (.hs true k r 0 n.toNat, .cells (zeros n.toNat (z.cells.toList.map V.sc)).flatten) else none
    | _, _, _ => none
  | _, _, _ => none
def appBound : Nat := 70368744177664
def srcOf (P : Program) (k : Nat) (xt : TypeId) (x : V) : Option (List (List D)) :=
  match P.underlying xt with
  | some (.slice _) => esOf k x
  | some .string => match x with
    | .d (.sc (.string s)) => if k = 1 then some (bs s.toList) else none
    | _ => none
  | _ => none
def flatD (es : List (List D)) : List V := (es.flatten).map V.d
def srcH (P : Program) (h : List Ho) (k : Nat) (xt : TypeId) (x : V) : Option (Nat × List V) :=
  match P.underlying xt with
  | some (.slice _) => match x with
    | .hs _ k' o off n => match h[o]? with
      | some (.cells cs) => if k' = k ∧ off + n * k ≤ cs.length then some (n, (cs.drop off).take (n * k)) else none
      | _ => none
    | x => (esOf k x).map fun es => (es.length, flatD es)
  | _ => none
def appendH (P : Program) (h : List Ho) (r : Nat) (st xt : TypeId) (s x : V) : Option (V × List Ho) :=
  match P.underlying st with
  | some (.slice e) => match szT P e, byT P e, zeroT P e with
    | some k, some b, some z => if z.cells.size = k ∧ 0 < k then match srcH P h k xt x with
        | some (m, xs) => match s with
          | .hs true k' o 0 n => match h[o]? with
            | some (.cells cs) => if k' = k ∧ n * k ≤ cs.length ∧ (n + m) * b ≤ appBound ∧ n + m ≤ appBound then some (.hs true k r 0 (n + m), (h.set o .dead).set r (.cells (cs.take (n * k) ++ xs))) else none
            | _ => none
          | .d (.sc (.slice none 0 0)) => if m * b ≤ appBound ∧ m ≤ appBound then some (.hs true k r 0 m, h.set r (.cells xs)) else none
          | .full k' [] => if k' = k ∧ m * b ≤ appBound ∧ m ≤ appBound then some (.hs true k r 0 m, h.set r (.cells xs)) else none
          | _ => none
        | none => none else none
    | _, _, _ => none
  | _ => none
def copyV (P : Program) (h : List Ho) (dt xt : TypeId) (d x : V) : Option (V × List Ho) :=
  match P.underlying dt with
  | some (.slice e) => match szT P e with
    | some k => match srcH P h k xt x, d with
      | some (m, xs), .hs _ k' o off n => match h[o]? with
        | some (.cells cs) => if k' = k ∧ 0 < k ∧ off + n * k ≤ cs.length then
            some (.sc (.int .i64 (min n m : Nat)), h.set o (.cells (cs.take off ++ xs.take (min n m * k) ++ cs.drop (off + min n m * k)))) else none
        | _ => none
      | _, _ => none
    | none => none
  | _ => none
def keyEq : Value → Value → Bool
  | .int k a, .int k' b => k == k' && a == b
  | .string a, .string b => a == b
  | _, _ => false
def keyOk : TypeDesc → Value → Bool
  | .int k, .int k' _ => k == k'
  | .string, .string _ => true
  | _, _ => false
def mget : List ME → Value → Option V
  | [], _ => none
  | e :: es, k => if keyEq k e.key = true then some e.val else mget es k
def mset (c : Nat) : List ME → Value → V → List ME
  | [], k, v => [⟨c, k, v⟩]
  | e :: es, k, v => if keyEq k e.key = true then ⟨e.born, k, v⟩ :: es else e :: mset c es k v
def mdel : List ME → Value → List ME
  | [], _ => []
  | e :: es, k => if keyEq k e.key = true then es else e :: mdel es k
def ment (c : Nat) (z : V) : List ME → Value → V × Nat × List ME
  | [], k => (z, c, [⟨c, k, z⟩])
  | e :: es, k => if keyEq k e.key = true then (e.val, e.born, ⟨e.born, k, e.val⟩ :: es) else match ment c z es k with
    | (v, b, es') => (v, b, e :: es')
def mstore : List ME → Nat → V → Option (List ME)
  | [], _, _ => none
  | e :: es, b, v => if e.born = b then some (⟨e.born, e.key, v⟩ :: es) else (mstore es b v).map (e :: ·)
def keysOk (d : TypeDesc) (es : List ME) : Bool := es.all fun e => keyOk d e.key
def GM.get (m : GM) (k : Value) : Option V := mget m.es k
def GM.set (m : GM) (k : Value) (v : V) : GM := ⟨if (mget m.es k).isSome = true then m.c else m.c + 1, mset m.c m.es k v⟩
def GM.del (m : GM) (k : Value) : GM := ⟨m.c, mdel m.es k⟩
def GM.ent (m : GM) (z : V) (k : Value) : V × Nat × GM := ((ment m.c z m.es k).1, (ment m.c z m.es k).2.1, ⟨if (mget m.es k).isSome = true then m.c else m.c + 1, (ment m.c z m.es k).2.2⟩)
def GM.store (m : GM) (b : Nat) (v : V) : Option GM := (mstore m.es b v).map fun es => ⟨m.c, es⟩
def zeroV1 (P : Program) (t : TypeId) : Option V := (zeroT P t).bind constV
def mapOf (h : List Ho) : V → Option GM
  | .mp o => match h[o]? with
    | some (.map m) => some m
    | _ => none
  | .d (.sc (.map none)) => some ⟨0, []⟩
  | _ => none
def lookupV (P : Program) (h : List Ho) (t : TypeId) (x k : V) (ok : Bool) : Option V :=
  match P.underlying t, k with
  | some (.map kt et), .d (.sc key) => match P.underlying kt, mapOf h x, zeroV1 P et with
    | some kd, some m, some z => if keyOk kd key = true ∧ keysOk kd m.es = true then
        match m.get key with
        | some v => some (if ok then .tup [v, .sc (.bool true)] else v)
        | none => some (if ok then .tup [z, .sc (.bool false)] else z)
        else none
    | _, _, _ => none
  | _, _ => none
def atMap (P : Program) (h : List Ho) (t : TypeId) (x k : V) (f : GM → Value → TypeId → Option (V × GM)) : Option (V × List Ho) :=
  match P.underlying t, x, k with
  | some (.map kt et), .mp o, .d (.sc key) => match P.underlying kt, h[o]? with
    | some kd, some (.map m) => if keyOk kd key = true ∧ keysOk kd m.es = true then (f m key et).map fun r => (r.1, h.set o (.map r.2)) else none
    | _, _ => none
  | _, _, _ => none
def mapUpdateV (P : Program) (h : List Ho) (t : TypeId) (x k v : V) : Option (V × List Ho) := atMap P h t x k fun m key _ => some (.undef, m.set key v)
def deleteV (P : Program) (h : List Ho) (t : TypeId) (x k : V) : Option (V × List Ho) := atMap P h t x k fun m key _ => some (.undef, m.del key)
def mapEntryV (P : Program) (h : List Ho) (t : TypeId) (x k : V) : Option (V × List Ho) := atMap P h t x k fun m key et => match zeroV1 P et with
  | some z => some (.tup [(m.ent z key).1, .sc (.int .i64 (m.ent z key).2.1)], (m.ent z key).2.2)
  | none => none
def entryStoreV (h : List Ho) (x s v : V) : Option (V × List Ho) :=
  match x, s with
  | .mp o, .d (.sc (.int _ n)) => match h[o]? with
    | some (.map m) => if 0 ≤ n then (m.store n.toNat v).map fun m' => (.undef, h.set o (.map m')) else none
    | _ => none
  | _, _ => none
def appendV (P : Program) (h : List Ho) (r : Nat) (st xt : TypeId) (s x : V) : Option (V × List Ho) :=
  match P.underlying st with
  | some (.slice e) => match szT P e, byT P e, zeroT P e with
    | some k, some b, some z => if z.cells.size = k ∧ 0 < k then match srcOf P k xt x with
        | some xs => match s with
          | .own k' es t => match h[t]? with
            | some .tail => if k' = k ∧ (es.length + xs.length) * b ≤ appBound ∧ es.length + xs.length ≤ appBound then some (.own k (es ++ xs) r, (h.set t .dead).set r .tail) else none
            | _ => none
          | .full k' es => if k' = k ∧ (es.length + xs.length) * b ≤ appBound ∧ es.length + xs.length ≤ appBound then some (.own k (es ++ xs) r, h.set r .tail) else none
          | .d (.sc (.slice none 0 0)) => if xs.length * b ≤ appBound ∧ xs.length ≤ appBound then some (.own k xs r, h.set r .tail) else none
          | _ => none
        | none => none else none
    | _, _, _ => none
  | _ => none
def lenV (P : Program) (t : TypeId) (x : V) : Option V :=
  match P.underlying t with
  | some .string => match x with
    | .d (.sc (.string s)) => some (.sc (.int .i64 s.size))
    | _ => none
  | some (.array n _) => some (.sc (.int .i64 n))
  | some (.slice _) => match x with
    | .d (.sl _ es) | .own _ es _ | .full _ es => some (.sc (.int .i64 es.length))
    | .d (.sc (.slice none 0 0)) => some (.sc (.int .i64 0))
    | .hs _ _ _ _ n => some (.sc (.int .i64 n))
    | _ => none
  | _ => none
def convV (P : Program) (src dst : TypeId) (x : V) : Option V :=
  match x with
  | .d (.sc (.int _ n)) => match P.underlying src, P.underlying dst with
    | some _, some (.int k) => some (.sc (.int k (k.wrap n)))
    | some _, some .string => some (.sc (.string (Utf8.encode n)))
    | _, _ => none
  | .d (.sc (.string s)) => match P.underlying src, P.underlying dst with
    | some .string, some .string => some x
    | some .string, some (.slice e) => match P.underlying e with
      | some (.int .u8) => if s.size ≤ appBound then some (.sl 1 (bs s.toList)) else none
      | _ => none
    | _, _ => none
  | x => match P.underlying src, P.underlying dst with
    | some (.slice e), some .string => match P.underlying e, esOf 1 x with
      | some (.int .u8), some es => (unbs es).map fun l => .sc (.string ⟨l.toArray⟩)
      | _, _ => none
    | _, _ => none
def convHV (P : Program) (h : List Ho) (src dst : TypeId) (k o off n : Nat) : Option (V × List Ho) :=
  match h[o]? with
  | some (.cells cs) => match P.underlying src, P.underlying dst, toDs cs with
    | some (.slice _), some (.slice e), some ds => match P.underlying e with
      | some (.int .u8) => if src = dst ∧ k = 1 ∧ off = 0 ∧ n = cs.length ∧ 0 < n then some (.sl 1 (ds.map fun d => [d]), h.set o .dead) else none
      | _ => none
    | _, _, _ => none
  | _ => none
inductive Res where
  | val (v : V) (h : List Ho)
  | call (f : Nat) (args : List V)
  | no
def resOf (h : List Ho) : Option V → Res
  | some v => .val v h
  | none => .no
def resH : Option (V × List Ho) → Res
  | some (v, h') => .val v h'
  | none => .no
def callV (P : Program) (M : TypeId → Bool) (tm : List V) (h : List Ho) (r : Nat) (c : Call) : Res :=
  match c.callee with
  | .value f => match evV tm f, evArgs tm c.args.toList with
    | some (.fn g cap), some vs => .call g (vs ++ cap)
    | some (.fnb g first), some vs => .call g (first ++ vs)
    | _, _ => .no
  | .builtin .append => match c.argTypes.toList, evArgs tm c.args.toList with
    | [st, xt], some [s, x] => if M st = true then match appendH P h r st xt s x with
      | some (v, h') => .val v h'
      | none => .no else match appendV P h r st xt s x with
      | some (v, h') => .val v h'
      | none => .no
    | _, _ => .no
  | .builtin .copy => match c.argTypes.toList, evArgs tm c.args.toList with
    | [dt, xt], some [d, x] => match copyV P h dt xt d x with
      | some (v, h') => .val v h'
      | none => .no
    | _, _ => .no
  | .builtin .delete => match c.argTypes.toList, evArgs tm c.args.toList with
    | [t, _], some [x, k] => resH (deleteV P h t x k)
    | _, _ => .no
  | .builtin .len => match c.argTypes.toList, evArgs tm c.args.toList with
    | [t], some [x] => match x with
      | .mp o => match isMapT P t, h[o]? with
        | true, some (.map m) => .val (.sc (.int .i64 m.es.length)) h
        | _, _ => .no
      | x => resOf h (lenV P t x)
    | _, _ => .no
  | .builtin .min => match evArgs tm c.args.toList with
    | some [.d (.sc (.int k x)), .d (.sc (.int _ y))] => .val (.sc (.int k (if y < x then y else x))) h
    | _ => .no
  | .builtin .max => match evArgs tm c.args.toList with
    | some [.d (.sc (.int k x)), .d (.sc (.int _ y))] => .val (.sc (.int k (if y > x then y else x))) h
    | _ => .no
  | _ => .no
def opV (P : Program) (M : TypeId → Bool) (tm : List V) (h : List Ho) (r : Nat) (o : Oper) : Res :=
  match o.op with
  | .move x | .assign x => resOf h (evV tm x)
  | .pick c a b => match evV tm c, evV tm a, evV tm b with
    | some (.d (.sc (.bool t))), some va, some vb => .val (match t with | true => va | false => vb) h
    | _, _, _ => .no
  | .alloc e => match zeroVs P e with
    | some cs => .val (.ptr r 0) (h.set r (.cells cs))
    | none => .no
  | .box e x => match evV tm x with
    | some v => if (cellsV v).all isOne = true then .val (.ptr r 0) (h.set r (.cells (cellsV v))) else .no
    | none => .no
  | .build t parts => match zeroVs P t, evParts tm parts.toList, shapeT P t with
    | some z, some vs, true => resOf h ((fillV (placeOf P t) z vs).map V.agg)
    | _, _, _ => .no
  | .buildSlice t len parts => match evParts tm parts.toList with
    | some vs => if M t = true then match buildSliceH P r t len vs with
      | some (v, ob) => .val v (h.set r ob)
      | none => .no else resOf h (buildSliceV P t len vs)
    | none => .no
  | .load t p => match evV tm p, knownT P t with
    | some p, true => resOf h (loadV P h t p)
    | _, _ => .no
  | .store t p x => match evV tm p, evV tm x with
    | some p, some v => match storeV P h t p v with
      | some h' => .val .undef h'
      | none => .no
    | _, _ => .no
  | .nilCheck x => match evV tm x with
    | some (.ptr o off) => .val (.ptr o off) h
    | some (.ep c off) => .val (.ep c off) h
    | some (.fn f cap) => .val (.fn f cap) h
    | _ => .no
  | .binOp op t x y _ => match evV tm x, evV tm y with
    | some a, some b => resOf h (binV P op t a b)
    | _, _ => .no
  | .unOp op _ x => match evV tm x with
    | some a => resOf h (unV op a)
    | none => .no
  | .convert src dst x => match evV tm x with
    | some (.hs _ k i off n) => resH (convHV P h src dst k i off n)
    | some a => resOf h (convV P src dst a)
    | none => .no
  | .makeFunc (.func f) first cap => match first.toList, evArgs tm cap.toList with
    | [], some vs => .val (.fn f vs) h
    | [x], some [] => (match evV tm x with
      | some v => .val (.fnb f [v]) h
      | none => .no)
    | _, _ => .no
  | .makeSlice t l c => match evV tm l, evV tm c with
    | some a, some b => if M t = true then match makeSliceH P r t (intOfV a) (intOfV b) with
      | some (v, ob) => .val v (h.set r ob)
      | none => .no else resOf h (makeSliceV P t (intOfV a) (intOfV b))
    | _, _ => .no
  | .makeMap t none => .val (.mp r) (h.set r (.map ⟨0, []⟩))
  | .lookup t x k ok => match evV tm x, evV tm k with
    | some a, some b => resOf h (lookupV P h t a b ok)
    | _, _ => .no
  | .mapUpdate t x k v => match evV tm x, evV tm k, evV tm v with
    | some a, some b, some c => resH (mapUpdateV P h t a b c)
    | _, _, _ => .no
  | .mapEntry t x k => match evV tm x, evV tm k with
    | some a, some b => resH (mapEntryV P h t a b)
    | _, _ => .no
  | .entryStore _ x s v => match evV tm x, evV tm s, evV tm v with
    | some a, some b, some c => resH (entryStoreV h a b c)
    | _, _, _ => .no
  | .slice t x lo hi mx => match evV tm x, evOpt tm lo, evOpt tm hi, evOpt tm mx with
    | some v, some l, some hh, some m => resOf h (sliceV P t v l hh m)
    | _, _, _, _ => .no
  | .fieldAddr s x f => match evV tm x, fieldOf P s f with
    | some (.ptr o off), some (fo, _) => .val (.ptr o (off + fo)) h
    | some (.ep c off), some (fo, _) => .val (.ep c (off + fo)) h
    | _, _ => .no
  | .field s x f => match evV tm x, fieldOf P s f with
    | some (.agg cs), some (fo, t) => match knownT P t with
      | true => resOf h (partV P t cs fo)
      | false => .no
    | _, _ => .no
  | .indexAddr t x i => match evV tm x, evV tm i with
    | some a, some b => resOf h (indexAtV P t a b)
    | _, _ => .no
  | .index t x i => match evV tm x, evV tm i with
    | some a, some b => resOf h (indexV P t a b)
    | _, _ => .no
  | .extract x i => match evV tm x with
    | some (.tup vs) => resOf h vs[i]?
    | _ => .no
  | .call c => callV P M tm h r c
  | _ => .no
end
section
section
open Go Go.RowKit
set_option linter.unusedVariables false
set_option linter.unusedSimpArgs false
variable {F : Fr}
def RelT (F : Fr) (φ : List Pl) (w : World) (tmps : Array Value) (tm : List V) : Prop :=
  tmps.size = tm.length ∧ ∀ (t : Nat) (r : Value) (v : V), tmps[t]? = some r → tm[t]? = some v → Den F φ w r v
inductive DenL (F : Fr) (φ : List Pl) (w : World) : List Value → List V → Prop
  | nil : DenL F φ w [] []
  | cons {r : Value} {v : V} {rs : List Value} {vs : List V} (h : Den F φ w r v) (hs : DenL F φ w rs vs) : DenL F φ w (r :: rs) (v :: vs)
theorem DenL.length {φ : List Pl} {w : World} {rs : List Value} {vs : List V} (h : DenL F φ w rs vs) : rs.length = vs.length := by
  induction h with
  | nil => rfl
  | cons _ _ ih => simp [ih]
theorem DenL.get {φ : List Pl} {w : World} {rs : List Value} {vs : List V} (h : DenL F φ w rs vs) : ∀ (i : Nat) (r : Value) (v : V), rs[i]? = some r → vs[i]? = some v → Den F φ w r v := by
  induction h with
  | nil => intro i r v h; simp at h
  | cons hd _ ih =>
    intro i r v h1 h2
    cases i with
    | zero => simp at h1 h2; subst h1 h2; exact hd
    | succ i => simp at h1 h2; exact ih i r v h1 h2
theorem DenL.of_get {φ : List Pl} {w : World} : ∀ {rs : List Value} {vs : List V}, rs.length = vs.length → (∀ (i : Nat) (r : Value) (v : V), rs[i]? = some r → vs[i]? = some v → Den F φ w r v) → DenL F φ w rs vs
  | [], [], _, _ => .nil
  | r :: rs, v :: vs, hl, h => .cons (h 0 r v rfl rfl) (.of_get (by simpa using hl) fun i r v h1 h2 => h (i + 1) r v (by simpa using h1) (by simpa using h2))
  | [], _ :: _, hl, _ => by simp at hl
  | _ :: _, [], hl, _ => by simp at hl
theorem DenL.ext {φ φ' : List Pl} {w w' : World} (he : Ext φ w φ' w') {rs : List Value} {vs : List V} (h : DenL F φ w rs vs) : DenL F φ' w' rs vs := by
  induction h with
  | nil => exact .nil
  | cons hd _ ih => exact .cons (hd.ext he) ih
theorem DenL.append {φ : List Pl} {w : World} {rs rs' : List Value} {vs vs' : List V} (h : DenL F φ w rs vs) (h' : DenL F φ w rs' vs') : DenL F φ w (rs ++ rs') (vs ++ vs') := by
  induction h with
  | nil => exact h'
  | cons hd _ ih => exact .cons hd ih
theorem flat_one {x : Value} (h : flat x = true) : x.oneCell' = true := by
  cases x <;> first | rfl | simp [flat] at h
theorem DenD.one {φ : List Pl} {w : World} {r : Value} {x : D} (h : DenD F φ w r x) : r.oneCell' = true := by
  cases h with
  | sc h => exact flat_one h
  | nil => rfl
  | sl => rfl
theorem Den.one {φ : List Pl} {w : World} {r : Value} {v : V} (h : Den F φ w r v) (h1 : isOne v = true) : r.oneCell' = true := by
  cases h with
  | d h => exact h.one
  | agg => simp [isOne] at h1
  | tup => simp [isOne] at h1
  | any => simp [isOne] at h1
  | _ => rfl
theorem Den.sc {φ : List Pl} {w : World} {r x : Value} (h : Den F φ w r (.d (.sc x))) : r = x ∧ flat x = true := by
  cases h with
  | d h => cases h with
    | sc h => exact ⟨rfl, h⟩
theorem den_sc {φ : List Pl} {w : World} {x : Value} (h : flat x = true) : Den F φ w x (.d (.sc x)) := .d (.sc h)
theorem den_undef {φ : List Pl} {w : World} : Den F φ w undef .undef := .tup rfl fun i r v h => by simp at h
theorem constV_den {φ : List Pl} {w : World} {x : Value} {v : V} (h : constV x = some v) : Den F φ w x v := by
  unfold constV at h
  split at h
  · rename_i cs
    split at h
    · rename_i hf
      cases h
      have hf' : ∀ (i : Nat) (r : Value), cs[i]? = some r → flat r = true := fun i r hr => Array.all_eq_true_iff_forall_mem.1 hf r (Array.mem_of_getElem? hr)
      refine .agg (by simp) (fun i r hr => flat_one (hf' i r hr)) fun i r v hr hv => ?_
      rw [List.getElem?_map, Array.getElem?_toList, hr] at hv
      simp only [Option.map_some, Option.some.injEq] at hv
      subst hv
      exact den_sc (hf' i r hr)
    · cases h
  · rename_i vs
    split at h
    · rename_i hv
      cases h
      obtain rfl : vs = #[] := Array.eq_empty_of_size_eq_zero hv
      exact den_undef
    · cases h
  · split at h
    · cases h; exact den_sc ‹_›
    · cases h
theorem evV_den {φ : List Pl} {w : World} {a : Act} {tm : List V} (ht : RelT F φ w a.tmps tm) {x : Operand} {v : V} (h : evV tm x = some v) : Den F φ w (a.eval x) v := by
  cases x with
  | tmp t =>
    have hl := get_lt h
    have hs : t < a.tmps.size := by rw [ht.1]; exact hl
    have hr : a.tmps[t]? = some a.tmps[t] := Array.getElem?_eq_getElem hs
    have : a.eval (.tmp t) = a.tmps[t] := by simp [Act.eval, Array.getD, hs]
    rw [this]
    exact ht.2 t _ v hr h
  | const x => exact constV_den h
  | global g => cases h
  | func f => cases h; exact .fn rfl fun i r v h => by simp at h
theorem evArgs_den {φ : List Pl} {w : World} {a : Act} {tm : List V} (ht : RelT F φ w a.tmps tm) : ∀ {xs : List Operand} {vs : List V}, evArgs tm xs = some vs → DenL F φ w (xs.map a.eval) vs
  | [], vs, h => by cases h; exact .nil
  | x :: r, vs, h => by
    unfold evArgs at h
    split at h
    · rename_i v vs' h1 h2
      cases h
      exact .cons (evV_den ht h1) (evArgs_den ht h2)
    · cases h
def Gd (P : Program) (F : Fr) (φ : List Pl) (w : World) (v : V) (h' : List Ho) : Result Next → Prop
  | .ok (.value u) w' => ∃ φ', Ext φ w φ' w' ∧ Inv F φ' w' h' ∧ Den F φ' w' u v
  | .ok .skip w' => v = .undef ∧ ∃ φ', Ext φ w φ' w' ∧ Inv F φ' w' h'
  | .ok (.enter f args) w' => Calls P f args w' fun e w'' => ∃ u φ', e = .returned u ∧ Ext φ w φ' w'' ∧ Inv F φ' w'' h' ∧ Den F φ' w'' u v
  | _ => False
theorem Gd.same {P : Program} {φ : List Pl} {w : World} {u : Value} {v : V} {h : List Ho} (hi : Inv F φ w h) (hd : Den F φ w u v) : Gd P F φ w v h (.ok (.value u) w) := ⟨φ, .refl φ w, hi, hd⟩
section
variable {P : Program} (w : World)
theorem intBin_run {op : BinOp} {k : IntKind} {x y : Int} {r : Value} (h : intBin op k x y = some r) (t : TypeId) (hs : op ≠ .shl ∧ op ≠ .shr) : (binOp op t (.int k x) (.int k y)).run P w = .ok r w ∧ flat r = true := by
  cases op <;> simp only [intBin] at h
  case quo => split at h; · cases h
              · cases h; rename_i hy; exact ⟨by simp [binOp, Op.intDiv, hy], rfl⟩
  case rem => split at h; · cases h
              · cases h; rename_i hy; exact ⟨by simp [binOp, Op.intDiv, hy], rfl⟩
  all_goals first
    | (cases h; done)
    | (cases h; exact ⟨by simp [binOp, Op.intArith, Op.intBits, Op.intCmp], rfl⟩)
    | exact absurd rfl hs.1
    | exact absurd rfl hs.2
theorem strBin_run {op : BinOp} {x y : ByteArray} {r : Value} (h : strBin op x y = some r) (t : TypeId) : (binOp op t (.string x) (.string y)).run P w = .ok r w ∧ flat r = true := by
  cases op <;> simp only [strBin] at h
  case add =>
    split at h
    · rename_i hl
      cases h
      refine ⟨?_, rfl⟩
      have : ¬ (((x.size + y.size : Nat) : Int) > IntKind.i64.max) := by simp [IntKind.max, IntKind.signed, IntKind.bits]; omega
      simp only [binOp, Op.stringOp, Sem.run_ite, if_neg this, Sem.run_pure]
    · cases h
  all_goals first
    | (cases h; done)
    | (cases h; exact ⟨by simp [binOp, Op.stringOp], rfl⟩)
theorem run_equalIn_nilp (d : Nat) {t e : TypeId} (h : P.underlying t = some (.pointer e)) : (Op.equalIn (d + 1) t (.pointer none) (.pointer none)).run P w = .ok true w := by
  simp [Op.equalIn, run_underlying h]
theorem run_equal_nilp {t e : TypeId} (h : P.underlying t = some (.pointer e)) : (Op.equal t (.pointer none) (.pointer none)).run P w = .ok true w := run_equalIn_nilp w 9999 h
theorem run_equalIn_ptrnil (d : Nat) {t e : TypeId} (a : Addr) (h : P.underlying t = some (.pointer e)) : (Op.equalIn (d + 1) t (.pointer (some a)) (.pointer none)).run P w = .ok false w := by
  simp [Op.equalIn, run_underlying h]
theorem run_equal_ptrnil {t e : TypeId} (a : Addr) (h : P.underlying t = some (.pointer e)) : (Op.equal t (.pointer (some a)) (.pointer none)).run P w = .ok false w := run_equalIn_ptrnil w 9999 a h
theorem run_equalIn_nils (d : Nat) {t e : TypeId} (h : P.underlying t = some (.slice e)) : (Op.equalIn (d + 1) t (.slice none 0 0) (.slice none 0 0)).run P w = .ok true w := by
  simp [Op.equalIn, run_underlying h]
theorem run_equal_nils {t e : TypeId} (h : P.underlying t = some (.slice e)) : (Op.equal t (.slice none 0 0) (.slice none 0 0)).run P w = .ok true w := run_equalIn_nils w 9999 h
theorem run_equalIn_snil (d : Nat) {t e : TypeId} (a : Addr) (n c : Nat) (h : P.underlying t = some (.slice e)) : (Op.equalIn (d + 1) t (.slice (some a) n c) (.slice none 0 0)).run P w = .ok false w := by
  simp [Op.equalIn, run_underlying h]
theorem run_equal_snil {t e : TypeId} (a : Addr) (n c : Nat) (h : P.underlying t = some (.slice e)) : (Op.equal t (.slice (some a) n c) (.slice none 0 0)).run P w = .ok false w := run_equalIn_snil w 9999 a n c h
theorem run_equalIn_nilm (d : Nat) {t k e : TypeId} (h : P.underlying t = some (.map k e)) : (Op.equalIn (d + 1) t (.map none) (.map none)).run P w = .ok true w := by
  simp [Op.equalIn, run_underlying h]
theorem run_equal_nilm {t k e : TypeId} (h : P.underlying t = some (.map k e)) : (Op.equal t (.map none) (.map none)).run P w = .ok true w := run_equalIn_nilm w 9999 h
theorem run_equalIn_mnil (d : Nat) {t k e : TypeId} (b : Nat) (h : P.underlying t = some (.map k e)) : (Op.equalIn (d + 1) t (.map (some b)) (.map none)).run P w = .ok false w := by
  simp [Op.equalIn, run_underlying h]
theorem run_equal_mnil {t k e : TypeId} (b : Nat) (h : P.underlying t = some (.map k e)) : (Op.equal t (.map (some b)) (.map none)).run P w = .ok false w := run_equalIn_mnil w 9999 b h
theorem scBin_run {op : BinOp} {t : TypeId} {a b r : Value} (h : scBin P op t a b = some r) (x y : Operand) :
    ((do eqGuard op t x y a b; binOp op t a b : Sem Value)).run P w = .ok r w ∧ flat r = true := by
  have hg : ∀ (a b : Value), a ≠ .nilIface → (∀ cs, a ≠ .agg cs) → (eqGuard op t x y a b).run P w = .ok () w := by
    intro a b h1 h2
    unfold eqGuard
    cases op <;> cases a <;> simp_all
  rw [Sem.run_bind]
  unfold scBin at h
  split at h
  · rename_i k x1 k' y1
    rw [hg _ _ (by simp) (by simp), Result.andThen_ok]
    split at h
    · split at h
      · cases h
      · cases h; rename_i hy; exact ⟨by simp [binOp, Op.shift, hy], rfl⟩
    · split at h
      · cases h
      · cases h; rename_i hy; exact ⟨by simp [binOp, Op.shift, hy], rfl⟩
    · rename_i op' h1 h2
      split at h
      · rename_i hk; subst hk
        exact intBin_run w h t ⟨h1, h2⟩
      · cases h
  · rename_i x1 y1
    rw [hg _ _ (by simp) (by simp), Result.andThen_ok]
    exact strBin_run w h t
  · rename_i x1 y1
    rw [hg _ _ (by simp) (by simp), Result.andThen_ok]
    split at h
    · rename_i hu; cases h
      exact ⟨by simp only [binOp, Sem.run_bind, run_equal_bool w t x1 y1 hu, Result.andThen_ok, Sem.run_pure, Sem.run_map], rfl⟩
    · rename_i hu; cases h
      exact ⟨by simp only [binOp, Sem.run_bind, run_equal_bool w t x1 y1 hu, Result.andThen_ok, Sem.run_pure, Sem.run_map], rfl⟩
    · cases h
  · rw [hg _ _ (by simp) (by simp), Result.andThen_ok]
    split at h
    · rename_i hu; cases h
      exact ⟨by simp only [binOp, Sem.run_bind, run_equal_nilp w hu, Result.andThen_ok, Sem.run_pure, Bool.not_true, Sem.run_map], rfl⟩
    · rename_i hu; cases h
      exact ⟨by simp only [binOp, Sem.run_bind, run_equal_nilp w hu, Result.andThen_ok, Sem.run_pure, Bool.not_true, Sem.run_map], rfl⟩
    · cases h
  · rw [hg _ _ (by simp) (by simp), Result.andThen_ok]
    split at h
    · rename_i hu; cases h
      exact ⟨by simp only [binOp, Sem.run_bind, run_equal_nils w hu, Result.andThen_ok, Sem.run_pure, Sem.run_map], rfl⟩
    · rename_i hu; cases h
      exact ⟨by simp only [binOp, Sem.run_bind, run_equal_nils w hu, Result.andThen_ok, Sem.run_pure, Bool.not_true, Sem.run_map], rfl⟩
    · cases h
  · rw [hg _ _ (by simp) (by simp), Result.andThen_ok]
    split at h
    · rename_i hu; cases h
      exact ⟨by simp only [binOp, Sem.run_bind, run_equal_nilm w hu, Result.andThen_ok, Sem.run_pure, Sem.run_map], rfl⟩
    · rename_i hu; cases h
      exact ⟨by simp only [binOp, Sem.run_bind, run_equal_nilm w hu, Result.andThen_ok, Sem.run_pure, Bool.not_true, Sem.run_map], rfl⟩
    · cases h
  · cases h
end
end
section
open Go Go.RowKit
set_option linter.unusedVariables false
set_option linter.unusedSimpArgs false
variable {F : Fr}
section
variable {P : Program} {F : Fr} {φ : List Pl} {w : World}
theorem Den.aggInv {r : Value} {cs : List V} (h : Den F φ w r (.agg cs)) : ∃ rs : Array Value, r = .agg rs ∧ rs.size = cs.length ∧ (∀ (i : Nat) (r : Value), rs[i]? = some r → r.oneCell' = true) ∧ ∀ (i : Nat) (r : Value) (v : V), rs[i]? = some r → cs[i]? = some v → Den F φ w r v := by
  cases h with
  | agg hs h1 h => exact ⟨_, rfl, hs, h1, h⟩
theorem Den.tupInv {r : Value} {cs : List V} (h : Den F φ w r (.tup cs)) : ∃ rs : Array Value, r = .tuple rs ∧ rs.size = cs.length ∧ ∀ (i : Nat) (r : Value) (v : V), rs[i]? = some r → cs[i]? = some v → Den F φ w r v := by
  cases h with
  | tup hs h => exact ⟨_, rfl, hs, h⟩
theorem Den.fnInv {r : Value} {f : Nat} {cs : List V} (h : Den F φ w r (.fn f cs)) : ∃ rs : Array Value, r = .func (.func f) #[] rs ∧ rs.size = cs.length ∧ ∀ (i : Nat) (r : Value) (v : V), rs[i]? = some r → cs[i]? = some v → Den F φ w r v := by
  cases h with
  | fn hs h => exact ⟨_, rfl, hs, h⟩
theorem Den.fnbInv {r : Value} {f : Nat} {cs : List V} (h : Den F φ w r (.fnb f cs)) : ∃ rs : Array Value, r = .func (.func f) rs #[] ∧ rs.size = cs.length ∧ ∀ (i : Nat) (r : Value) (v : V), rs[i]? = some r → cs[i]? = some v → Den F φ w r v := by
  cases h with
  | fnb hs h => exact ⟨_, rfl, hs, h⟩
theorem Den.ptrInv {r : Value} {o off : Nat} (h : Den F φ w r (.ptr o off)) : ∃ b, r = .pointer (some ⟨b, off, none⟩) ∧ lv φ o ∧ ∀ {z : Nat} b', φ[o]? = some (Pl.obj b' z) → b' = b := by
  cases h with
  | ptr ho h => exact ⟨_, rfl, ho, h⟩
theorem Den.epInv {r : Value} {cells : List D} {off : Nat} (h : Den F φ w r (.ep cells off)) : ∃ (b at_ : Nat) (c : Nat → Value), r = .pointer (some ⟨b, at_ + off, none⟩) ∧ (∀ j, j < cells.length → cellP F φ w b (at_ + j) (c j)) ∧ ∀ (j : Nat) (x : D), cells[j]? = some x → DenD F φ w (c j) x := by
  cases h with
  | ep c ha hc hd => subst ha; exact ⟨_, _, c, rfl, hc, hd⟩
theorem getLt {α : Type} {xs : Array α} {i : Nat} {x : α} (h : xs[i]? = some x) : i < xs.size := by
  rcases Nat.lt_or_ge i xs.size with h1 | h1
  · exact h1
  · rw [Array.getElem?_eq_none h1] at h; cases h
theorem ofLt {α : Type} {xs : Array α} {i : Nat} (h : i < xs.size) : ∃ x, xs[i]? = some x := ⟨xs[i], Array.getElem?_eq_getElem h⟩
theorem ofLtL {α : Type} {xs : List α} {i : Nat} (h : i < xs.length) : ∃ x, xs[i]? = some x := ⟨xs[i], List.getElem?_eq_getElem h⟩
theorem run_part_one {e : TypeId} (h : aggT P e = false) {d : TypeDesc} (hu : P.underlying e = some d) {rs : Array Value} {off : Nat} {r : Value} (hr : rs[off]? = some r) : (part e rs off).run P w = .ok r w := by
  unfold aggT at h
  rw [hu] at h
  cases d <;> simp at h <;> simp [part, isAgg, run_underlying hu, hr]
theorem eqInts_run {e : TypeId} {q : IntKind} (hu : P.underlying e = some (.int q)) (d : Nat) : ∀ (xs ys : List V) (j : Nat) (rs ss : Array Value) (b : Bool), eqInts xs ys = some b →
    (∀ i v, xs[i]? = some v → ∃ r, rs[j + i]? = some r ∧ Den F φ w r v) → (∀ i v, ys[i]? = some v → ∃ r, ss[j + i]? = some r ∧ Den F φ w r v) →
    (Op.eqItems (d + 1) e 1 rs ss (List.range' j xs.length)).run P w = .ok b w
  | [], [], j, rs, ss, b, h, _, _ => by simp only [eqInts] at h; cases h; simp [Op.eqItems]
  | v :: xs, [], j, rs, ss, b, h, _, _ => by simp [eqInts] at h
  | [], v :: ys, j, rs, ss, b, h, _, _ => by simp [eqInts] at h
  | v :: xs, u :: ys, j, rs, ss, b, h, h1, h2 => by
    unfold eqInts at h
    split at h
    · rename_i h0; cases h0
    · rename_i k a xs' k' a' ys' e1 e2
      cases e1; cases e2
      split at h
      · rename_i hk
        subst hk
        obtain ⟨r, hr, hd⟩ := h1 0 _ rfl
        obtain ⟨s, hs, hd'⟩ := h2 0 _ rfl
        obtain ⟨rfl, _⟩ := hd.sc
        obtain ⟨rfl, _⟩ := hd'.sc
        have hag : aggT P e = false := by unfold aggT; rw [hu]
        obtain ⟨b', hb', rfl⟩ := Option.map_eq_some_iff.1 h
        have ih := eqInts_run hu d xs ys (j + 1) rs ss b' hb' (fun i v hv => by have := h1 (i + 1) v hv; rwa [show j + (i + 1) = j + 1 + i by omega] at this) (fun i v hv => by have := h2 (i + 1) v hv; rwa [show j + (i + 1) = j + 1 + i by omega] at this)
        simp only [Nat.add_zero] at hr hs
        simp only [List.length_cons, List.range'_succ, Op.eqItems, Nat.mul_one, Sem.run_bind, run_part_one hag hu hr, run_part_one hag hu hs, Result.andThen_ok, run_equalIn_int w d e k q a a' hu, Sem.run_ite]
        cases hh : (a == a')
        · simp
        · simp only [Bool.not_true, Bool.false_eq_true, if_false, Bool.true_and]; exact ih
      · cases h
    · cases h
theorem eqKind_agg {t : TypeId} {k : Nat} (h : eqKind P t = some k) : aggT P t = false ∧ ∃ d, P.underlying t = some d := by
  unfold eqKind at h
  unfold aggT
  split at h <;> first | (cases h; done) | (rename_i hu; rw [hu]; exact ⟨rfl, _, rfl⟩)
theorem eqStep_run {t : TypeId} {k : Nat} (h : eqKind P t = some k) (d : Nat) {x y : V} {b : Bool} (hb : eqStep k x y = some b) {r s : Value} (hr : Den F φ w r x) (hs : Den F φ w s y) :
    (Op.equalIn (d + 1) t r s).run P w = .ok b w := by
  unfold eqKind at h
  unfold eqStep at hb
  split at h <;> first | (cases h; done) | skip
  · rename_i q hu
    cases h
    split at hb <;> first | (cases hb; done) | skip
    · split at hb
      · rename_i hk
        subst hk
        obtain ⟨rfl, _⟩ := hr.sc
        obtain ⟨rfl, _⟩ := hs.sc
        cases hb
        exact run_equalIn_int w d t _ q _ _ hu
      · cases hb
    all_goals (rename_i h0; cases h0)
  · rename_i hu
    cases h
    split at hb <;> first | (cases hb; done) | skip
    all_goals first
      | (rename_i h0; cases h0; done)
      | (obtain ⟨rfl, _⟩ := hr.sc
         obtain ⟨rfl, _⟩ := hs.sc
         cases hb
         exact run_equalIn_bool' w d t _ _ hu)
  · rename_i hu
    cases h
    split at hb <;> first | (cases hb; done) | skip
    all_goals first
      | (rename_i h0; cases h0; done)
      | (obtain ⟨rfl, _⟩ := hr.sc
         obtain ⟨rfl, _⟩ := hs.sc
         cases hb
         exact run_equalIn_string w d t _ _ hu)
theorem eqSteps_run (d : Nat) {rs ss : Array Value} {xs ys : List V} (hx : ∀ (i : Nat) (v : V), xs[i]? = some v → ∃ r, rs[i]? = some r ∧ Den F φ w r v) (hy : ∀ (i : Nat) (v : V), ys[i]? = some v → ∃ r, ss[i]? = some r ∧ Den F φ w r v) :
    ∀ (fs : List Field) (l : List (Nat × Nat)) (b : Bool), eqPlanL P fs = some l → eqSteps l xs ys = some b → (Op.eqFields (d + 1) rs ss fs).run P w = .ok b w
  | [], l, b, h, hb => by
    simp only [eqPlanL] at h
    cases h
    simp only [eqSteps] at hb
    cases hb
    simp [Op.eqFields]
  | f :: fs, l, b, h, hb => by
    simp only [eqPlanL] at h
    split at h
    · cases h
    · rename_i hn
      split at h
      · rename_i k l' hk hl
        cases h
        simp only [eqSteps] at hb
        split at hb
        · rename_i x y hxo hyo
          split at hb
          · rename_i a c ha hc
            cases hb
            obtain ⟨r, hr, hrd⟩ := hx _ _ hxo
            obtain ⟨s, hs, hsd⟩ := hy _ _ hyo
            obtain ⟨hag, ds, hu⟩ := eqKind_agg hk
            have ih := eqSteps_run d hx hy fs l' c hl hc
            simp only [Op.eqFields, ne_eq, hn, not_false_iff, if_true, Sem.run_bind, run_part_one hag hu hr, run_part_one hag hu hs, Result.andThen_ok, eqStep_run hk d ha hrd hsd, Sem.run_ite]
            cases a
            · simp
            · simp only [Bool.not_true, Bool.false_eq_true, if_false, Bool.true_and]; exact ih
          · cases hb
        · cases hb
      · cases h
theorem eqV_run {t : TypeId} {xs ys : List V} {b : Bool} (h : eqV P t xs ys = some b) {r s : Value} (hr : Den F φ w r (.agg xs)) (hs : Den F φ w s (.agg ys)) :
    (Op.equal t r s).run P w = .ok b w ∧ P.eqGuardType P.depth t = false := by
  unfold eqV at h
  split at h
  · rename_i n e hu
    split at h
    · rename_i hc
      obtain ⟨h1, h2, h3, h4, h5⟩ := hc
      obtain ⟨rs, rfl, hrs, _, hrd⟩ := hr.aggInv
      obtain ⟨ss, rfl, hss, _, hsd⟩ := hs.aggInv
      unfold isIntT at h1
      split at h1
      · rename_i q hq
        obtain ⟨i, hi⟩ := info_of_underlying hq
        have hce : P.cellsOf e = 1 := by
          unfold szT at h2; unfold Program.cellsOf; rw [h2]; rfl
        refine ⟨?_, h3⟩
        have := eqInts_run (P := P) (φ := φ) (w := w) hq 9998 xs ys 0 rs ss b h (fun i v hv => by
          obtain ⟨r, hr⟩ := ofLt (xs := rs) (i := i) (by rw [hrs]; exact get_lt hv)
          exact ⟨r, by simpa using hr, hrd i r v hr hv⟩) (fun i v hv => by
          obtain ⟨r, hr⟩ := ofLt (xs := ss) (i := i) (by rw [hss]; exact get_lt hv)
          exact ⟨r, by simpa using hr, hsd i r v hr hv⟩)
        show (Op.equalIn (9999 + 1) t (.agg rs) (.agg ss)).run P w = _
        rw [run_equalIn_array w 9999 rs ss hu hi, hce, List.range_eq_range', ← h4]
        exact this
      · cases h1
    · cases h
  · rename_i fs hu
    split at h
    · rename_i l hp
      unfold eqPlan at hp
      rw [hu] at hp
      dsimp only at hp
      split at hp
      · cases hp
      · rename_i hc
        obtain ⟨rs, rfl, hrs, _, hrd⟩ := hr.aggInv
        obtain ⟨ss, rfl, hss, _, hsd⟩ := hs.aggInv
        have hst : P.stoodInHeld t = false := by
          cases hh : P.stoodInHeld t
          · rfl
          · exact absurd (.inl hh) hc
        have heg : P.eqGuardType P.depth t = false := by
          cases hh : P.eqGuardType P.depth t
          · rfl
          · exact absurd (.inr hh) hc
        refine ⟨?_, heg⟩
        have hf : P.fieldsOf t = fs := by unfold Program.fieldsOf; rw [hu]
        have := eqSteps_run (P := P) (φ := φ) (w := w) 9998 (rs := rs) (ss := ss) (fun i v hv => by
          obtain ⟨r, hr⟩ := ofLt (xs := rs) (i := i) (by rw [hrs]; exact get_lt hv)
          exact ⟨r, hr, hrd i r v hr hv⟩) (fun i v hv => by
          obtain ⟨r, hr⟩ := ofLt (xs := ss) (i := i) (by rw [hss]; exact get_lt hv)
          exact ⟨r, hr, hsd i r v hr hv⟩) fs.toList l b hp h
        show (Op.equalIn (9999 + 1) t (.agg rs) (.agg ss)).run P w = _
        rw [run_equalIn_struct w 9999 t rs ss (by rw [hf]; exact hu) hst, hf]
        exact this
    · cases h
  · cases h
theorem nilCmp_run {op : BinOp} {t : TypeId} {e : Bool} {v : V} (h : nilCmp P op t e = some v) {r : Value} (hr : (∃ a n c, r = .slice (some a) n c) ∨ (e = true ∧ r = .slice none 0 0)) (x y : Operand) :
    ∃ u, ((do eqGuard op t x y r (.slice none 0 0); binOp op t r (.slice none 0 0) : Sem Value)).run P w = .ok u w ∧ Den F φ w u v := by
  unfold nilCmp at h
  split at h
  case isFalse => cases h
  rename_i hc
  obtain ⟨hp, hop⟩ := hc
  unfold isSliceT at hp
  split at hp
  case h_2 => cases hp
  rename_i el hu
  have hg : ∀ (op : BinOp) (a : Option Addr) (n c : Nat), (eqGuard op t x y (.slice a n c) (.slice none 0 0)).run P w = .ok () w := fun op a n c => by
    unfold eqGuard; cases op <;> simp
  rcases hr with ⟨a, n, c, rfl⟩ | ⟨rfl, rfl⟩
  · rcases hop with rfl | rfl
    · refine ⟨.bool false, by simp only [Sem.run_bind, hg, Result.andThen_ok, binOp, run_equal_snil w _ _ _ hu, Sem.run_pure, Sem.run_map], ?_⟩
      cases e <;> cases h
      · exact den_sc rfl
      · exact .ub
    · refine ⟨.bool true, by simp only [Sem.run_bind, hg, Result.andThen_ok, binOp, run_equal_snil w _ _ _ hu, Sem.run_pure, Sem.run_map, Bool.not_false], ?_⟩
      cases e <;> cases h
      · exact den_sc rfl
      · exact .ub
  · cases h
    rcases hop with rfl | rfl
    · exact ⟨.bool true, by simp only [Sem.run_bind, hg, Result.andThen_ok, binOp, run_equal_nils w hu, Sem.run_pure, Sem.run_map], .ub⟩
    · exact ⟨.bool false, by simp only [Sem.run_bind, hg, Result.andThen_ok, binOp, run_equal_nils w hu, Sem.run_pure, Sem.run_map, Bool.not_true], .ub⟩
theorem sl_nilOr {r : Value} {k : Nat} {es : List (List D)} (h : DenD F φ w r (.sl k es)) : (∃ a n c, r = .slice (some a) n c) ∨ (es.isEmpty = true ∧ r = .slice none 0 0) := by
  cases h with
  | @nil k a => cases a with
    | none => exact .inr ⟨rfl, rfl⟩
    | some a => exact .inl ⟨_, _, _, rfl⟩
  | sl => exact .inl ⟨_, _, _, rfl⟩
theorem mnil_run {op : BinOp} {t : TypeId} {v : V} (hp : isMapT P t = true) (b : Nat) (h : (match op with
    | .eql => some (V.sc (.bool false))
    | .neq => some (.sc (.bool true))
    | _ => none) = some v) (x y : Operand) :
    ∃ u, ((do eqGuard op t x y (.map (some b)) (.map none); binOp op t (.map (some b)) (.map none) : Sem Value)).run P w = .ok u w ∧ Den F φ w u v := by
  unfold isMapT at hp
  split at hp
  · rename_i k e hu
    have hg : ∀ (op : BinOp), (eqGuard op t x y (.map (some b)) (.map none)).run P w = .ok () w := fun op => by
      unfold eqGuard; cases op <;> simp
    split at h <;> cases h
    · exact ⟨.bool false, by simp only [Sem.run_bind, hg, Result.andThen_ok, binOp, run_equal_mnil w _ hu, Sem.run_pure, Sem.run_map], den_sc rfl⟩
    · exact ⟨.bool true, by simp only [Sem.run_bind, hg, Result.andThen_ok, binOp, run_equal_mnil w _ hu, Sem.run_pure, Sem.run_map, Bool.not_false], den_sc rfl⟩
  · cases hp
theorem binV_run {op : BinOp} {t : TypeId} {a b v : V} (h : binV P op t a b = some v) {r s : Value} (hr : Den F φ w r a) (hs : Den F φ w s b) (x y : Operand) :
    ∃ u, ((do eqGuard op t x y r s; binOp op t r s : Sem Value)).run P w = .ok u w ∧ Den F φ w u v := by
  unfold binV at h
  split at h
  · obtain ⟨rfl, _⟩ := hr.sc
    obtain ⟨rfl, _⟩ := hs.sc
    obtain ⟨u, hu, rfl⟩ := Option.map_eq_some_iff.1 h
    obtain ⟨h1, h2⟩ := scBin_run w hu x y
    exact ⟨u, h1, den_sc h2⟩
  · obtain ⟨rfl, _⟩ := hs.sc
    obtain ⟨b, rfl, _⟩ := hr.ptrInv
    split at h
    · rename_i hp
      unfold isPtrT at hp
      split at hp
      · rename_i e hu
        have hg : ∀ (op : BinOp) (n : Nat), (eqGuard op t x y (.pointer (some ⟨b, n, none⟩)) (.pointer none)).run P w = .ok () w := fun op n => by
          unfold eqGuard; cases op <;> simp
        split at h <;> cases h
        · exact ⟨.bool false, by simp only [Sem.run_bind, hg, Result.andThen_ok, binOp, run_equal_ptrnil w _ hu, Sem.run_pure, Sem.run_map], den_sc rfl⟩
        · exact ⟨.bool true, by simp only [Sem.run_bind, hg, Result.andThen_ok, binOp, run_equal_ptrnil w _ hu, Sem.run_pure, Sem.run_map, Bool.not_false], den_sc rfl⟩
      · cases hp
    · cases h
  · obtain ⟨rfl, _⟩ := hs.sc
    refine nilCmp_run h ?_ x y
    cases hr with
    | hs => exact .inl ⟨_, _, _, rfl⟩
    | @hsE _ _ _ cap a ho ha hc hsp => cases a with
      | none => obtain rfl := ha rfl; exact .inr ⟨rfl, rfl⟩
      | some a => exact .inl ⟨_, _, _, rfl⟩
    | @hsN _ _ _ a ho hh => cases a with
      | none => exact .inr ⟨rfl, rfl⟩
      | some a => exact .inl ⟨_, _, _, rfl⟩
  · obtain ⟨rfl, _⟩ := hs.sc
    refine nilCmp_run h ?_ x y
    cases hr with
    | d hd => exact sl_nilOr hd
  · obtain ⟨rfl, _⟩ := hs.sc
    refine nilCmp_run h ?_ x y
    cases hr with
    | own ht hd => exact sl_nilOr hd
    | ownEx ht hh hd => exact sl_nilOr hd
  · obtain ⟨rfl, _⟩ := hs.sc
    refine nilCmp_run h ?_ x y
    cases hr with
    | full hd => exact sl_nilOr hd
  · obtain ⟨rfl, _⟩ := hs.sc
    split at h
    · rename_i hc
      cases hr with
      | mp => exact mnil_run hc _ h x y
    · cases h
  · split at h
    · obtain ⟨b, hb, rfl⟩ := Option.map_eq_some_iff.1 h
      obtain ⟨h1, h2⟩ := eqV_run hb hr hs
      obtain ⟨rs, rfl, _⟩ := hr.aggInv
      obtain ⟨ss, rfl, _⟩ := hs.aggInv
      have hg : (eqGuard .eql t x y (.agg rs) (.agg ss)).run P w = .ok () w := by
        unfold eqGuard; simp [h2]
      exact ⟨.bool b, by simp only [Sem.run_bind, hg, Result.andThen_ok, binOp, h1, Sem.run_pure, Sem.run_map], den_sc rfl⟩
    · obtain ⟨b, hb, rfl⟩ := Option.map_eq_some_iff.1 h
      obtain ⟨h1, h2⟩ := eqV_run hb hr hs
      obtain ⟨rs, rfl, _⟩ := hr.aggInv
      obtain ⟨ss, rfl, _⟩ := hs.aggInv
      have hg : (eqGuard .neq t x y (.agg rs) (.agg ss)).run P w = .ok () w := by
        unfold eqGuard; simp [h2]
      exact ⟨.bool !b, by simp only [Sem.run_bind, hg, Result.andThen_ok, binOp, h1, Sem.run_pure, Sem.run_map], den_sc rfl⟩
    · cases h
  · cases h
theorem unV_run {op : UnOp} {a v : V} (h : unV op a = some v) {r : Value} (hr : Den F φ w r a) : ∃ u, (Op.unary op r).run P w = .ok u w ∧ Den F φ w u v := by
  unfold unV at h
  split at h
  · obtain ⟨rfl, _⟩ := hr.sc
    split at h <;> cases h
    · exact ⟨_, by simp [Op.unary, Op.intArith], den_sc rfl⟩
    · exact ⟨_, by simp [Op.unary, Op.intBits], den_sc rfl⟩
  · obtain ⟨rfl, _⟩ := hr.sc
    split at h <;> cases h
    exact ⟨_, by simp [Op.unary], den_sc rfl⟩
  · split at h <;> cases h
    cases hr with
    | @ub b => exact ⟨.bool (!b), by simp [Op.unary], .ub⟩
  · cases h
theorem esOf_den {k : Nat} {v : V} {es : List (List D)} (h : esOf k v = some es) {r : Value} (hr : Den F φ w r v) : DenD F φ w r (.sl k es) := by
  unfold esOf at h
  split at h
  · split at h
    · rename_i hk; cases h; subst hk
      cases hr with
      | d h => exact h
    · cases h
  · split at h
    · rename_i hk; cases h; subst hk
      cases hr with
      | own ht h => exact h
      | ownEx _ _ h => exact h
    · cases h
  · split at h
    · rename_i hk; cases h; subst hk
      cases hr with
      | full h => exact h
    · cases h
  · cases h
    obtain ⟨rfl, _⟩ := hr.sc
    exact .nil
  · cases h
theorem toD_den {v : V} {x : D} (h : toD v = some x) {r : Value} (hr : Den F φ w r v) : DenD F φ w r x := by
  unfold toD at h
  split at h <;> cases h
  · cases hr with
    | d h => exact h
  · exact esOf_den (k := _) (v := .own _ _ _) (by simp [esOf]) hr
  · exact esOf_den (k := _) (v := .full _ _) (by simp [esOf]) hr
theorem DenD.slInv {r : Value} {k : Nat} {es : List (List D)} (h : DenD F φ w r (.sl k es)) : (∃ a, r = .slice a 0 0 ∧ es = []) ∨
    ∃ (cap b off : Nat) (c : Nat → Nat → Value), r = .slice (some ⟨b, off, none⟩) es.length cap ∧ (es.length ≤ cap ∧ cap ≤ 9223372036854775807) ∧ (∀ (i : Nat) (e : List D), es[i]? = some e → e.length = k) ∧
      (∀ i j, i < es.length → j < k → cellP F φ w b (off + i * k + j) (c i j)) ∧ ∀ (i : Nat) (e : List D) (j : Nat) (x : D), es[i]? = some e → e[j]? = some x → DenD F φ w (c i j) x := by
  cases h with
  | nil => exact .inl ⟨_, rfl, rfl⟩
  | sl c hn hcap hk hc hd =>
    subst hn
    exact .inr ⟨_, _, _, c, rfl, hcap, hk, hc, hd⟩
theorem add_addr (b off n : Nat) : (⟨b, off, none⟩ : Addr).add n = ⟨b, off + n, none⟩ := by unfold Addr.add; split <;> simp_all
theorem loadV_run {h : List Ho} (hi : Inv F φ w h) {t : TypeId} {p v : V} (hl : loadV P h t p = some v) {d : TypeDesc} (hu : P.underlying t = some d) {r : Value} (hr : Den F φ w r p) :
    ∃ u, (Instr.loadAt t r).run P w = .ok u w ∧ Den F φ w u v := by
  have one : ∀ (b o : Nat) (x : Value), aggT P t = false → w.cell? ⟨b, o, none⟩ = some x → (Instr.loadAt t (.pointer (some ⟨b, o, none⟩))).run P w = .ok x w := by
    intro b o x hag hc
    unfold aggT at hag
    rw [hu] at hag
    cases d <;> simp at hag <;> simp [Instr.loadAt, Instr.sureAddr, loadVar, isAgg, run_underlying hu, hc]
  have many : ∀ (b o n : Nat) (f : Nat → Value), aggT P t = true → szT P t = some n → (∀ j, j < n → w.cell? ⟨b, o + j, none⟩ = some (f j)) →
      (Instr.loadAt t (.pointer (some ⟨b, o, none⟩))).run P w = .ok (.agg ((List.range n).map f).toArray) w := by
    intro b o n f hag hn hc
    have hd : d.isRow = true := by
      unfold aggT at hag; rw [hu] at hag
      cases d <;> simp at hag <;> rfl
    refine run_loadAt_mid w b o t ((List.range n).map f) d (fun j v hv => ?_) hu hd ?_
    · rw [List.getElem?_map] at hv
      obtain ⟨j', hj', rfl⟩ := Option.map_eq_some_iff.1 hv
      have := get_lt hj'
      simp only [List.length_range] at this
      rw [List.getElem?_range this] at hj'; cases hj'
      exact hc j this
    · unfold szT at hn; rw [hn]; simp
  unfold loadV at hl
  split at hl
  · rename_i o off
    obtain ⟨b, rfl, ho, hb⟩ := hr.ptrInv
    split at hl
    · rename_i cs hcs
      obtain ⟨p, hp, hpn⟩ := ho
      have hok := hi.ok o p _ hp hcs
      cases p <;> simp only [ObOk] at hok
      case free =>
        subst hok
        split at hl
        · rename_i hag
          split at hl
          · rename_i n hn
            split at hl
            · rename_i hle
              cases hl
              have h0 : n = 0 := by simp at hle; omega
              subst h0
              exact ⟨_, many b off 0 (fun _ => undef) hag hn (fun j hj => absurd hj (Nat.not_lt_zero _)), .agg rfl (fun i r hr => by simp at hr) (fun i r v hr => by simp at hr)⟩
            · cases hl
          · cases hl
        · simp at hl
      rename_i b' z
      have := hb b' hp
      subst this
      obtain ⟨arr, ⟨T, hrow⟩, hz, hlen, hd⟩ := hok
      have cell : ∀ (j : Nat) (x : V), cs[j]? = some x → ∃ u, w.cell? ⟨b', j, none⟩ = some u ∧ u.oneCell' = true ∧ Den F φ w u x := fun j x hx => by
        obtain ⟨u, h1, h2, h3⟩ := hd j x hx
        exact ⟨u, (cell_of w b' j u).2 ⟨arr, T, _, hrow, h1⟩, h2, h3⟩
      split at hl
      · rename_i hag
        split at hl
        · rename_i n hn
          split at hl
          · rename_i hle
            cases hl
            have hf : ∀ j, ∃ u : Value, j < n → w.cell? ⟨b', off + j, none⟩ = some u ∧ u.oneCell' = true ∧ ∀ x, cs[off + j]? = some x → Den F φ w u x := fun j => by
              by_cases hj : j < n
              · obtain ⟨x, hx⟩ := ofLtL (xs := cs) (i := off + j) (by omega)
                obtain ⟨u, h1, h2, h3⟩ := cell _ x hx
                exact ⟨u, fun _ => ⟨h1, h2, fun y hy => by rw [hx] at hy; cases hy; exact h3⟩⟩
              · exact ⟨undef, fun h => absurd h hj⟩
            obtain ⟨f, hf⟩ : ∃ f : Nat → Value, ∀ j, j < n → w.cell? ⟨b', off + j, none⟩ = some (f j) ∧ (f j).oneCell' = true ∧ ∀ x, cs[off + j]? = some x → Den F φ w (f j) x := ⟨fun j => Classical.choose (hf j), fun j => Classical.choose_spec (hf j)⟩
            refine ⟨_, many b' off n f hag hn (fun j hj => (hf j hj).1), ?_⟩
            refine .agg (by simp; omega) (fun i r hr => ?_) fun i r v hr hv => ?_
            · have hlt := getLt hr
              simp only [List.size_toArray, List.length_map, List.length_range] at hlt
              simp [hlt] at hr
              subst hr
              exact (hf i hlt).2.1
            · have hlt := getLt hr
              simp only [List.size_toArray, List.length_map, List.length_range] at hlt
              simp [hlt] at hr
              subst hr
              rw [List.getElem?_take, if_pos hlt, List.getElem?_drop] at hv
              exact (hf i hlt).2.2 v hv
          · cases hl
        · cases hl
      · rename_i hag
        obtain ⟨u, h1, _, h3⟩ := cell off v hl
        exact ⟨u, one b' off u (by simpa using hag) h1, h3⟩
    · cases hl
  · rename_i cs off
    obtain ⟨b, at_, c, rfl, hc, hd⟩ := hr.epInv
    split at hl
    · rename_i hag
      split at hl
      · rename_i n hn
        split at hl
        · rename_i hle
          cases hl
          have hcell : ∀ j, j < n → w.cell? ⟨b, at_ + off + j, none⟩ = some (c (off + j)) := fun j hj => by
            have := (hc (off + j) (by omega)).2
            rwa [← Nat.add_assoc] at this
          refine ⟨_, many b (at_ + off) n (fun j => c (off + j)) hag hn hcell, ?_⟩
          have hden : ∀ i, i < n → ∃ x, cs[off + i]? = some x ∧ DenD F φ w (c (off + i)) x := fun i hi => by
            obtain ⟨x, hx⟩ := ofLtL (xs := cs) (i := off + i) (by omega)
            exact ⟨x, hx, hd _ x hx⟩
          refine .agg (by simp; omega) (fun i r hr => ?_) fun i r v hr hv => ?_
          · have hlt := getLt hr
            simp only [List.size_toArray, List.length_map, List.length_range] at hlt
            simp [hlt] at hr
            subst hr
            obtain ⟨x, _, h2⟩ := hden i hlt
            exact h2.one
          · have hlt := getLt hr
            simp only [List.size_toArray, List.length_map, List.length_range] at hlt
            simp [hlt] at hr
            subst hr
            obtain ⟨x, h1, h2⟩ := hden i hlt
            rw [List.getElem?_map, List.getElem?_take, if_pos hlt, List.getElem?_drop, h1] at hv
            cases hv
            exact .d h2
        · cases hl
      · cases hl
    · rename_i hag
      obtain ⟨x, hx, rfl⟩ := Option.map_eq_some_iff.1 hl
      exact ⟨c off, one b (at_ + off) _ (by simpa using hag) (hc off (get_lt hx)).2, .d (hd off x hx)⟩
  · cases hl
end
end
section
open Go Go.RowKit
set_option linter.unusedVariables false
set_option linter.unusedSimpArgs false
variable {F : Fr}
theorem splice_get {α : Type} (l m : List α) (off : Nat) (h : off + m.length ≤ l.length) (j : Nat) :
    (l.take off ++ m ++ l.drop (off + m.length))[j]? = if j < off then l[j]? else if j < off + m.length then m[j - off]? else l[j]? := by
  have ht : (l.take off).length = off := by simp; omega
  by_cases h1 : j < off
  · rw [if_pos h1, List.append_assoc, List.getElem?_append_left (by omega), List.getElem?_take, if_pos h1]
  · rw [if_neg h1]
    by_cases h2 : j < off + m.length
    · rw [if_pos h2, List.getElem?_append_left (by simp; omega), List.getElem?_append_right (by omega), ht]
    · rw [if_neg h2, List.getElem?_append_right (by simp; omega), List.getElem?_drop]
      congr 1
      simp; omega
theorem splice_len {α : Type} (l m : List α) (off : Nat) (h : off + m.length ≤ l.length) : (l.take off ++ m ++ l.drop (off + m.length)).length = l.length := by
  simp; omega
section
variable {P : Program} {F : Fr} {φ : List Pl} {w : World}
theorem cells_den {r : Value} {v : V} (h : Den F φ w r v) (h1 : (cellsV v).all isOne = true) :
    DenL F φ w r.cells.toList (cellsV v) ∧ ∀ x ∈ r.cells.toList, x.oneCell' = true := by
  have one : isOne v = true → (cellsV v) = [v] → DenL F φ w r.cells.toList (cellsV v) ∧ ∀ x ∈ r.cells.toList, x.oneCell' = true := fun ho hc => by
    have hr := h.one ho
    have e : r.cells = #[r] := by cases r <;> first | rfl | simp [Value.oneCell'] at hr
    rw [e, hc]
    exact ⟨.cons h .nil, by simp [hr]⟩
  cases v with
  | agg cs =>
    obtain ⟨rs, rfl, hs, ho, hd⟩ := h.aggInv
    exact ⟨.of_get (by simpa [Value.cells, cellsV] using hs) (fun i r v hr hv => hd i r v (by simpa [Value.cells] using hr) hv), fun x hx => by
      obtain ⟨i, hi⟩ := List.mem_iff_getElem?.1 hx
      exact ho i x (by simpa [Value.cells] using hi)⟩
  | tup cs => simp [cellsV, isOne] at h1
  | any => simp [cellsV, isOne] at h1
  | _ => exact one rfl rfl
theorem storeVar_row (b off : Nat) (t : TypeId) (s : Value) (cur : Array Value) (T : TypeId) (hg : w.heap[b]? = some (.cells cur T (0, 0))) (hsz : szT P t = some s.cells.size)
    (hle : off + s.cells.size ≤ cur.size) (h1 : ∀ x ∈ s.cells.toList, x.oneCell' = true) :
    (Instr.storeAt t (.pointer (some ⟨b, off, none⟩)) s).run P w = .ok () (w.setRow b (cur.toList.take off ++ s.cells.toList ++ cur.toList.drop (off + s.cells.toList.length)).toArray) := by
  have := run_storeCells_at (P := P) b off T s.cells.toList 0 cur w hg (by simpa using hle) h1
  simp only [Nat.add_zero] at this
  unfold szT at hsz
  cases hq : P.info? t with
  | none => simp [hq] at hsz
  | some i =>
    have hs : s.cells.size = i.size := by simp [hq] at hsz; omega
    simp [Instr.storeAt, Instr.sureAddr, storeVar, sizeOf, typeInfo, hq, hs, this]
theorem storeV_run {h h' : List Ho} (hi : Inv F φ w h) {t : TypeId} {p v : V} (hl : storeV P h t p v = some h') {r s : Value} (hr : Den F φ w r p) (hs : Den F φ w s v) :
    ∃ w', (Instr.storeAt t r s).run P w = .ok () w' ∧ Ext φ w φ w' ∧ Inv F φ w' h' := by
  unfold storeV at hl
  split at hl
  · rename_i o off
    obtain ⟨b, rfl, ho, hb⟩ := hr.ptrInv
    split at hl
    · rename_i cs hcs
      split at hl
      · rename_i hc
        obtain ⟨hsz, hone, hle⟩ := hc
        cases hl
        obtain ⟨p, hp, hpn⟩ := ho
        have hok := hi.ok o p _ hp hcs
        cases p <;> simp only [ObOk] at hok
        case free =>
          subst hok
          have h0 : cellsV v = [] := List.eq_nil_of_length_eq_zero (by have h9 := hle; simp only [List.length_nil] at h9; omega)
          obtain ⟨hden, h1⟩ := cells_den hs hone
          have hn := hden.length
          rw [Array.length_toList] at hn
          have hz : s.cells = #[] := Array.eq_empty_of_size_eq_zero (by rw [hn, h0]; rfl)
          have hsz' : szT P t = some 0 := by rw [hsz, h0]; rfl
          have hsame : h.set o (.cells ((([] : List V).take off) ++ cellsV v ++ ([] : List V).drop (off + (cellsV v).length))) = h := by
            rw [h0]; simp only [List.take_nil, List.append_nil, List.drop_nil]
            apply List.ext_getElem?; intro i
            rw [List.getElem?_set]
            split
            · rename_i e; subst e; rw [hcs]; split
              · rfl
              · rename_i hl; exact absurd (get_lt hcs) hl
            · rfl
          rw [hsame]
          refine ⟨w, ?_, .refl φ w, hi⟩
          unfold szT at hsz'
          cases hq : P.info? t with
          | none => simp [hq] at hsz'
          | some i =>
            have hi0 : i.size = 0 := by simpa [hq] using hsz'
            simp [Instr.storeAt, Instr.sureAddr, storeVar, sizeOf, typeInfo, hq, hz, hi0, storeCells]
        rename_i b' z
        have := hb b' hp
        subst this
        obtain ⟨arr, ⟨T, hrow⟩, hz, hlen, hd⟩ := hok
        obtain ⟨hden, h1⟩ := cells_den hs hone
        have hn := hden.length
        rw [Array.length_toList] at hn
        have hrun := storeVar_row (P := P) b' off t s arr T hrow (by rw [hsz, hn]) (by omega) h1
        have hap : ∀ (j : Nat) (q : Pl), φ[j]? = some q → q.blk = some b' → j = o := fun j q hq hqb => hi.apart j o q _ b' hq hp hqb rfl
        have hlt : b' < w.heap.size := heap_lt hrow
        have hsize := size_setRow w b' (arr.toList.take off ++ s.cells.toList ++ arr.toList.drop (off + s.cells.toList.length)).toArray
        have hoth : ∀ k, k ≠ b' → (w.setRow b' (arr.toList.take off ++ s.cells.toList ++ arr.toList.drop (off + s.cells.toList.length)).toArray).heap[k]? = w.heap[k]? := fun k hk => setRow_other w b' k _ hk
        have hext := Ext.atObj hp hap hsize hoth
        refine ⟨_, hrun, hext, hi.atObj hp hsize hoth ?_⟩
        have hL : s.cells.toList.length = (cellsV v).length := by simpa using hn
        refine ⟨_, ⟨T, setRow_heap w b' arr _ T _ hrow⟩, ?_, ?_, fun j x hx => ?_⟩
        · rw [← hz]; simp only [List.size_toArray]
          rw [splice_len _ _ _ (by simp; omega)]; simp
        · rw [splice_len _ _ _ (by omega)]
          simp only [List.size_toArray]
          rw [splice_len _ _ _ (by simp; omega)]
          simpa using hlen
        · rw [splice_get _ _ _ (by omega)] at hx
          simp only [List.getElem?_toArray]
          rw [splice_get _ _ _ (by simp; omega)]
          by_cases g1 : j < off
          · rw [if_pos g1] at hx ⊢
            obtain ⟨u, a1, a2, a3⟩ := hd j x hx
            exact ⟨u, by simpa using a1, a2, a3.ext hext⟩
          · rw [if_neg g1] at hx ⊢
            by_cases g2 : j < off + (cellsV v).length
            · rw [if_pos g2] at hx
              rw [if_pos (by rw [hL]; exact g2)]
              obtain ⟨u, hu⟩ := ofLtL (xs := s.cells.toList) (i := j - off) (by omega)
              exact ⟨u, hu, h1 u (List.mem_of_getElem? hu), (hden.get _ u x hu hx).ext hext⟩
            · rw [if_neg g2] at hx
              rw [if_neg (by rw [hL]; exact g2)]
              obtain ⟨u, a1, a2, a3⟩ := hd j x hx
              exact ⟨u, by simpa using a1, a2, a3.ext hext⟩
      · cases hl
    · cases hl
  · cases hl
theorem partV_run {e : TypeId} {cs : List V} {off : Nat} {v : V} (h : partV P e cs off = some v) {d : TypeDesc} (hu : P.underlying e = some d) {rs : Array Value} (hs : rs.size = cs.length)
    (h1 : ∀ (i : Nat) (r : Value), rs[i]? = some r → r.oneCell' = true) (hd : ∀ (i : Nat) (r : Value) (v : V), rs[i]? = some r → cs[i]? = some v → Den F φ w r v) :
    ∃ u, (part e rs off).run P w = .ok u w ∧ Den F φ w u v := by
  unfold partV at h
  split at h
  · rename_i hag
    split at h
    · rename_i n hn
      cases h
      have hi : ∃ i, P.info? e = some i ∧ i.size = n := by
        unfold szT at hn
        cases hq : P.info? e with
        | none => simp [hq] at hn
        | some i => exact ⟨i, rfl, by simpa [hq] using hn⟩
      obtain ⟨i, hi, hin⟩ := hi
      have hrun : (part e rs off).run P w = .ok (.agg (rs.extract off (off + n))) w := by
        unfold aggT at hag
        rw [hu] at hag
        cases d <;> simp at hag <;> simp [part, isAgg, run_underlying hu, sizeOf, typeInfo, hi, hin]
      refine ⟨_, hrun, .agg (by simp; omega) (fun j r hr => ?_) fun j r v hr hv => ?_⟩
      · rw [Array.getElem?_extract] at hr
        split at hr
        · exact h1 _ r hr
        · cases hr
      · rw [Array.getElem?_extract] at hr
        split at hr
        · rw [List.getElem?_take] at hv
          split at hv
          · rw [List.getElem?_drop] at hv
            exact hd _ r v hr hv
          · cases hv
        · cases hr
    · cases h
  · rename_i hag
    obtain ⟨r, hr⟩ := ofLt (xs := rs) (i := off) (by rw [hs]; exact get_lt h)
    exact ⟨r, run_part_one (by simpa using hag) hu hr, hd off r v hr h⟩
theorem fieldOf_spec {s : TypeId} {f fo : Nat} {t : TypeId} (h : fieldOf P s f = some (fo, t)) : ∃ (fs : Array Field) (x : Field) (n : Nat), P.underlying s = some (.struct fs) ∧ fs[f]? = some x ∧ x.offset = fo ∧ x.type = t ∧ szT P t = some n ∧ n ≠ 0 := by
  unfold fieldOf at h
  split at h
  · rename_i fs hu
    split at h
    · rename_i x hx
      split at h
      · cases h
      · rename_i hn
        cases h
        cases hz : szT P x.type with
        | none => exact absurd (.inl hz) hn
        | some n => exact ⟨fs, x, n, hu, hx, rfl, rfl, rfl, fun e => hn (.inr (by rw [hz, e]))⟩
    · cases h
  · cases h
theorem fieldAddr_run {s : TypeId} {f fo : Nat} {t : TypeId} (h : fieldOf P s f = some (fo, t)) (b off : Nat) :
    (Instr.fieldAt s (.pointer (some ⟨b, off, none⟩)) f).run P w = .ok (.pointer (some ⟨b, off + fo, none⟩)) w := by
  obtain ⟨fs, x, n, hu, hx, rfl, rfl, hz, hn⟩ := fieldOf_spec h
  have hs : (sizeOf x.type).run P w = .ok n w := by
    unfold szT at hz
    cases hq : P.info? x.type with
    | none => simp [hq] at hz
    | some i => simp [sizeOf, typeInfo, hq]; simpa [hq] using hz
  simp [Instr.fieldAt, run_underlying hu, hx, Instr.sureAddr, fieldPlace, hs, hn, add_addr]
end
end
end
end Go.Proofs.YtgfnpcmehnjopaaGreatDoor
