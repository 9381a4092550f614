/- Regions that draw their order with appends and stores of their own in them. -/
import Derived.Test.YtfcbpdokilidgaaGrow
import Derived.Test.YtfcbpdokilidgaaSame
namespace Go.Proofs.Ytfcbpdokilidgaa
open Go Go.RowKit
set_option linter.unusedVariables false
set_option linter.unusedSimpArgs false

/-- What an append does: memory grows, or one row of elements e from base on (of which p holds) may turn. -/
def Ea (base : Nat) (e : TypeId) (p : Array Value → Prop) (a b : World) : Prop :=
  Gr a b ∨ ∃ g cs fr, base ≤ g ∧ p cs ∧ a.heap[g]? = some (.cells cs e fr) ∧ a.grownBy b (some g)
theorem Ea.refl (base : Nat) (e : TypeId) (p : Array Value → Prop) (a : World) : Ea base e p a a := .inl (Gr.refl a)
theorem Ea.below {base : Nat} {e : TypeId} {p : Array Value → Prop} {a b : World} (h : Ea base e p a b) (hB : base ≤ a.heap.size) : Below base a b := by
  rcases h with h | ⟨g, cs, fr, hb, _, _, hg⟩
  · exact Below.mono h hB
  · exact (Below.refl _ _).grown hg hB (fun k hk => by cases hk; exact hb)
/-- An append onto a row of one's own. -/
theorem ea_own {base e size n : Nat} {v : Value} {xs : List Value} {w w' : World} (h : w.ownsRow base e size v n xs) (hg : w.grownBy w' v.ownBlock) : Ea base e (fun _ => True) w w' := by
  rcases h.2 with ⟨rfl, _⟩ | ⟨g, cap, cur, rfl, hb, hh, _⟩
  · exact .inl ((Below.refl _ _).grown hg (Nat.le_refl _) (fun k hk => by cases hk))
  · exact .inr ⟨g, cur, _, hb, trivial, hh, hg⟩
/-- An append onto a row of one's own that has no room. -/
theorem ea_empty {base e g : Nat} {w w' : World} (hb : base ≤ g) (hh : w.heap[g]? = some (.cells #[] e)) (hg : w.grownBy w' (some g)) : Ea base e (fun cs => cs = #[]) w w' :=
  .inr ⟨g, #[], _, hb, rfl, hh, hg⟩
/-- A block that no such append turns. -/
theorem Ea.block {base : Nat} {e : TypeId} {p : Array Value → Prop} {a b : World} (h : Ea base e p a b) {k : Nat} {o : Obj} (hk : a.heap[k]? = some o) (hne : ∀ cs fr, o = .cells cs e fr → ¬ p cs) : b.heap[k]? = some o := by
  have hlt : k < a.heap.size := by
    rcases Nat.lt_or_ge k a.heap.size with h | h
    · exact h
    · rw [Array.getElem?_eq_none h] at hk; cases hk
  rcases h with h | ⟨g, cs, fr, hb, hp, hh, hg⟩
  · exact (h.block k hlt).trans hk
  · refine (hg.block k hlt ?_).trans hk
    intro e
    cases e
    rw [hh] at hk
    cases hk
    exact hne _ _ rfl hp
theorem Ow.refl (B0 : Nat) (a : World) : Ow B0 a a := fun _ => Below.refl _ _

section
variable {P : Program} {Q : Exit → Act → World → Prop}
theorem wp_region_own {id : Nat} {a : Act} {w : World} {l : List Oper} (hm : P.follows .mixedOrders = true) (hR : okR l.toArray = true) (E : Nat → World → World → Prop) (hrf : ∀ k a, E k a a)
    (hE : ∀ k a b, w.heap.size ≤ a.heap.size → E k a b → Below w.heap.size a b)
    (h : ∀ ops : Array Oper, Hid (ops = l.toArray) → wpG P ops E (fun a b => w.heap.size ≤ b.heap.size ∧ Below w.heap.size a b) w Q l 0 (fun _ => a) []) : (Code.region id l.toArray true).wp P Q a w := by
  refine wp_region_grow (E := E) (R := fun a b => w.heap.size ≤ b.heap.size ∧ Below w.heap.size a b) hm hR hrf (fun k a b e h1 h2 => ?_) ⟨Nat.le_refl _, Below.drew (Below.refl _ _)⟩ (by simpa using h _ rfl)
  have h3 := hE k b e h1.1 h2
  exact ⟨Nat.le_trans h1.1 h3.size, h1.2.trans h3⟩
end
/-- append at the operation, in such a region. -/
theorem gv_app {P : Program} {E : World → World → Prop} {S : Value → World → Prop} {w : World} {o : Oper} {ev : Operand → Value} {s x : Operand} {t : TypeId} (ho : o.op = .call { callee := .builtin .append, args := #[s, x], argTypes := #[t, t] })
    {V U : Value} (hs : ev s = V) (hx : ev x = U) (hrun : ∃ v' w', (Builtin.append_ #[t, t] o.type #[V, U]).run P w = .ok v' w' ∧ E w w' ∧ S v' w') : Gv P E w S ((execOp ev o).run P w) := by
  obtain ⟨v', w', hr, h1, h2⟩ := hrun
  unfold execOp
  simp only [ho, resolve, invoke, builtin, Sem.run_bind, Sem.run_pure, Result.andThen_ok, List.map_toArray, List.map_cons, List.map_nil, hs, hx, hr]
  exact ⟨h1, h2⟩
theorem own_empty {w : World} {base g : Nat} (hb : base ≤ g) (hh : w.heap[g]? = some (.cells #[] 5)) : w.ownsRow base 5 1 (.slice (some ⟨g, 0, none⟩) 0 0) 0 [] :=
  ⟨rfl, .inr ⟨g, 0, #[], rfl, hb, hh, Nat.le_refl _, by decide, rfl, rfl⟩⟩
theorem gapp0 (w : World) (ty : TypeId) (base g : Nat) (hb : base ≤ g) (hbase : base ≤ w.heap.size) (hh : w.heap[g]? = some (.cells #[] 5)) (U : Value) (m : List UInt8) (hr : Sb w U m) (hm : m.length ≤ 1000000000) :
    ∃ v' w', (Builtin.append_ #[33, 33] ty #[.slice (some ⟨g, 0, none⟩) 0 0, U]).run Try.prog w = .ok v' w' ∧ Ea base 5 (fun cs => cs = #[]) w w' ∧ Ob w' base v' m := by
  obtain ⟨v', w', h1, h2, h3, h4⟩ := run_app (P := Try.prog) w base 33 ty 5 _ 1 1 Try.underlying33 info_u8 rfl (by omega) _ 0 [] (own_empty hb hh) U m.length (m.map bv) hr (bvs_one m) (by omega) (by simp only [maxLen]; omega) hbase
  exact ⟨v', w', h1, ea_empty hb hh h3, by simpa [Ob] using h2⟩
theorem gapp (w : World) (ty : TypeId) (base : Nat) (hbase : base ≤ w.heap.size) (V : Value) (l : List UInt8) (ho : Ob w base V l) (U : Value) (m : List UInt8) (hr : Sb w U m) (hm : l.length + m.length ≤ 1000000000) :
    ∃ v' w', (Builtin.append_ #[33, 33] ty #[V, U]).run Try.prog w = .ok v' w' ∧ Ea base 5 (fun _ => True) w w' ∧ Ob w' base v' (l ++ m) := by
  obtain ⟨v', w', h1, h2, h3, h4⟩ := run_app (P := Try.prog) w base 33 ty 5 _ 1 1 Try.underlying33 info_u8 rfl (by omega) V l.length (l.map bv) ho U m.length (m.map bv) hr (bvs_one m) (by omega) (by simp only [maxLen]; omega) hbase
  exact ⟨v', w', h1, ea_own ho h3, by simpa [Ob] using h2⟩
end Go.Proofs.Ytfcbpdokilidgaa
