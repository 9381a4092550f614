/- A region that draws its order, and whose operations only let memory grow (calls and literals that make memory): one walk in the text's order serves every order, where each operation's value is told by a predicate that stays true. No program stands here. -/
import Derived.Orders
import Derived.Below
import Derived.WalkKit
namespace Go.Proofs.Ytonllhjmoenckaa
open Go Go.RowKit
set_option linter.unusedVariables false
set_option linter.unusedSimpArgs false

section
variable {P : Program} {ops : Array Oper} {E : Nat → World → World → Prop} {R D : World → World → Prop} {w0 : World} {Q : Exit → Act → World → Prop}

/-- What an operation, carried out in world w, comes to: a value as S says, and memory grown as E says. -/
def Gu (P : Program) (E : World → World → Prop) (w : World) (S : Value → World → Prop) : Result Next → Prop
  | .ok (.value u) w' => E w w' ∧ S u w'
  | .ok .skip w' => E w w' ∧ S undef w'
  | .ok (.enter f args) w' => Calls P f args w' fun e w'' => ∃ u, e = .returned u ∧ E w w'' ∧ S u w''
  | _ => False

def St (E : World → World → Prop) (S : Value → World → Prop) : Prop := ∀ u w w', S u w → E w w' → S u w'

/-- What is told of an operation: it is left out; it yields just v; it yields something of which S holds. -/
inductive Kn where
  | off
  | det (v : Value)
  | sat (S : Value → World → Prop)
  | lin (S : Value → World → Prop) (m : Nat)
  | two (j0 : Nat) (S : Value → Value → World → Prop)
def Kn.val : Kn → Value → Value
  | .off, _ => undef
  | .det v, _ => v
  | .sat _, u => u
  | .lin _ _, u => u
  | .two _ _, u => u
def Kn.fact : Kn → (Nat → Value) → Nat → World → Prop
  | .sat S, us, k, w => S (us k) w
  | .lin S _, us, k, w => S (us k) w
  | .two j0 S, us, k, w => S (us j0) (us k) w
  | _, _, _, _ => True
/-- Is what is told still wanted? A linear fact is wanted till operation m has come. -/
def Kn.live (listed : Array Bool) : Kn → Prop
  | .lin _ m => listed.getD m false = false
  | _ => True

def dep (o : Oper) (j : Nat) : Bool := o.after.toList.any fun e => Region.binds .any e && e.on == j

/-- Operation j waits for operation k, by one edge or by several. -/
inductive Anc (ops : Array Oper) : Nat → Nat → Prop where
  | one {j k : Nat} {o : Oper} : ops[j]? = some o → dep o k = true → Anc ops j k
  | more {j m k : Nat} {o : Oper} : ops[j]? = some o → dep o m = true → Anc ops m k → Anc ops j k

def Hyp (us : Nat → Value) (w : World) (kc : Nat) (o : Oper) : List (Nat × ((Nat → Value) → World → Prop) × Option Nat) → Prop
  | [] => True
  | (j, S, none) :: r => (dep o j = true → S us w) ∧ Hyp us w kc o r
  | (j, S, some n) :: r => (kc = n → S us w) ∧ Hyp us w kc o r
def Alls (us : Nat → Value) (w : World) : List (Nat × ((Nat → Value) → World → Prop) × Option Nat) → Prop
  | [] => True
  | (j, S, none) :: r => (true = true → S us w) ∧ Alls us w r
  | (j, S, some _) :: r => (False → S us w) ∧ Alls us w r

def onlyDep (ops : Array Oper) (j m : Nat) : Bool := (List.range ops.size).all fun k => k == m || match ops[k]? with
  | some o => !dep o j
  | none => true

/-- Operation n waits for operation k by an edge of its own. -/
def depOf (ops : Array Oper) (n k : Nat) : Bool := match ops[n]? with
  | some o => dep o k
  | none => false

def ObOf (P : Program) (ops : Array Oper) (E : Nat → World → World → Prop) (R : World → World → Prop) (w0 : World) (k : Nat) (o : Oper) (A : (Nat → Value) → Act) (F : List (Nat × ((Nat → Value) → World → Prop) × Option Nat)) : Kn → Prop
  | .off => ∀ us, Region.wanted o (yielded ops (A us).tmps) = false
  | .det v => (∀ us, Region.wanted o (yielded ops (A us).tmps) = true) ∧ ∀ us w, R w0 w → Hyp us w k o F → Gu P (E k) w (fun u _ => u = v) ((execOp (A us).eval o).run P w)
  | .sat S => (∀ m, m ≠ k → Anc ops k m ∨ St (E m) S) ∧ (∀ us, Region.wanted o (yielded ops (A us).tmps) = true) ∧ ∀ us w, R w0 w → Hyp us w k o F → Gu P (E k) w S ((execOp (A us).eval o).run P w)
  | .lin S n => depOf ops n k = true ∧ (∀ m, m ≠ k → m ≠ n → Anc ops k m ∨ Anc ops m n ∨ St (E m) S) ∧ (∀ us, Region.wanted o (yielded ops (A us).tmps) = true) ∧ ∀ us w, R w0 w → Hyp us w k o F → Gu P (E k) w S ((execOp (A us).eval o).run P w)
  | .two j0 S => dep o j0 = true ∧ (∀ m, m ≠ k → Anc ops k m ∨ ∀ u0, St (E m) (S u0)) ∧ (∀ us, Region.wanted o (yielded ops (A us).tmps) = true) ∧ ∀ us w, R w0 w → Hyp us w k o F → Gu P (E k) w (S (us j0)) ((execOp (A us).eval o).run P w)

def Aput (A : (Nat → Value) → Act) (o : Oper) (k : Nat) (κ : Kn) : (Nat → Value) → Act := fun us => (A us).put o.dst (κ.val (us k))
def Fput (F : List (Nat × ((Nat → Value) → World → Prop) × Option Nat)) (k : Nat) : Kn → List (Nat × ((Nat → Value) → World → Prop) × Option Nat)
  | .sat S => (k, fun us w => S (us k) w, none) :: F
  | .lin S n => (k, fun us w => S (us k) w, some n) :: F
  | .two j0 S => (k, fun us w => S (us j0) (us k) w, none) :: F
  | _ => F

/-- The walk in the text's order. -/
def wpG (P : Program) (ops : Array Oper) (E : Nat → World → World → Prop) (R : World → World → Prop) (w0 : World) (Q : Exit → Act → World → Prop) : List Oper → Nat → ((Nat → Value) → Act) → List (Nat × ((Nat → Value) → World → Prop) × Option Nat) → Prop
  | [], _, A, F => ∀ us w, R w0 w → Alls us w F → Q .normal (A us) w
  | o :: l, k, A, F => ∃ κ, ObOf P ops E R w0 k o A F κ ∧ wpG P ops E R w0 Q l (k + 1) (Aput A o k κ) (Fput F k κ)

/-- The region's form: every slot is written once; who looks at it waits for its writer, or its writer for him. -/
def okR (ops : Array Oper) : Bool :=
  Region.noSelect ops && (List.range ops.size).all fun k => match ops[k]? with
    | none => false
    | some ok => ok.after.all (fun e => !Region.binds .any e || decide (e.on < k)) && (List.range ops.size).all fun j => j == k || match ops[j]? with
      | none => false
      | some oj => match oj.dst with
        | none => true
        | some d => ok.dst != some d && (!(ok.looksAt ops).contains d || (if j < k then dep ok j else dep oj k))

def An (ops : Array Oper) (A0 : Act) (Ks : List Kn) : Nat → (Nat → Value) → Act
  | 0 => fun _ => A0
  | i + 1 => match ops[i]?, Ks[i]? with
    | some o, some κ => Aput (An ops A0 Ks i) o i κ
    | _, _ => An ops A0 Ks i
def Fn (Ks : List Kn) : Nat → List (Nat × ((Nat → Value) → World → Prop) × Option Nat)
  | 0 => []
  | i + 1 => match Ks[i]? with
    | some κ => Fput (Fn Ks i) i κ
    | none => Fn Ks i

theorem An_app (A0 : Act) (Kp t : List Kn) : ∀ i, i ≤ Kp.length → An ops A0 (Kp ++ t) i = An ops A0 Kp i
  | 0, _ => rfl
  | i + 1, h => by
    have hi : (Kp ++ t)[i]? = Kp[i]? := List.getElem?_append_left (by omega)
    simp only [An, hi, An_app A0 Kp t i (by omega)]
theorem Fn_app (Kp t : List Kn) : ∀ i, i ≤ Kp.length → Fn (Kp ++ t) i = Fn Kp i
  | 0, _ => rfl
  | i + 1, h => by
    have hi : (Kp ++ t)[i]? = Kp[i]? := List.getElem?_append_left (by omega)
    simp only [Fn, hi, Fn_app Kp t i (by omega)]

theorem wpG_extract (A0 : Act) : ∀ (l : List Oper) (k : Nat) (Kp : List Kn), Kp.length = k → (∀ j, l[j]? = ops[k + j]?) → wpG P ops E R w0 Q l k (An ops A0 Kp k) (Fn Kp k) →
    ∃ t : List Kn, t.length = l.length ∧ (∀ i o κ, k ≤ i → ops[i]? = some o → (Kp ++ t)[i]? = some κ → ObOf P ops E R w0 i o (An ops A0 (Kp ++ t) i) (Fn (Kp ++ t) i) κ) ∧
      ∀ us w, R w0 w → Alls us w (Fn (Kp ++ t) (k + l.length)) → Q .normal (An ops A0 (Kp ++ t) (k + l.length) us) w
  | [], k, Kp, hk, hl, h => by
    refine ⟨[], rfl, fun i o κ hi ho hκ => ?_, ?_⟩
    · rw [List.append_nil, List.getElem?_eq_none (by omega)] at hκ; cases hκ
    · simp only [List.append_nil, List.length_nil, Nat.add_zero]; exact h
  | o :: l, k, Kp, hk, hl, h => by
    obtain ⟨κ, ho, h⟩ := h
    have h0 : ops[k]? = some o := by simpa using (hl 0).symm
    have hKk : (Kp ++ [κ])[k]? = some κ := by rw [List.getElem?_append_right (by omega), hk]; simp
    have hA : An ops A0 (Kp ++ [κ]) (k + 1) = Aput (An ops A0 Kp k) o k κ := by
      simp only [An, h0, hKk, An_app A0 Kp [κ] k (by omega)]
    have hF : Fn (Kp ++ [κ]) (k + 1) = Fput (Fn Kp k) k κ := by
      simp only [Fn, hKk, Fn_app Kp [κ] k (by omega)]
    obtain ⟨t, ht, h1, h2⟩ := wpG_extract A0 l (k + 1) (Kp ++ [κ]) (by simp [hk]) (fun j => by have := hl (j + 1); simpa [Nat.add_assoc, Nat.add_comm 1 j] using this) (by rw [hA, hF]; exact h)
    refine ⟨κ :: t, by simp [ht], fun i o' κ' hi ho' hκ' => ?_, ?_⟩
    · have e : Kp ++ κ :: t = (Kp ++ [κ]) ++ t := by simp
      rw [e] at hκ' ⊢
      by_cases hik : i = k
      · subst hik
        rw [h0] at ho'; cases ho'
        rw [List.getElem?_append_left (by simp [hk]), hKk] at hκ'; cases hκ'
        rw [An_app A0 (Kp ++ [κ]) t i (by simp [hk]), Fn_app (Kp ++ [κ]) t i (by simp [hk]), An_app A0 Kp [κ] i (by omega), Fn_app Kp [κ] i (by omega)]
        exact ho
      · exact h1 i o' κ' (by omega) ho' hκ'
    · have e : Kp ++ κ :: t = (Kp ++ [κ]) ++ t := by simp
      have e2 : k + (o :: l).length = k + 1 + l.length := by simp; omega
      rw [e, e2]
      exact h2

theorem put_slot (a : Act) (d t : Nat) (v : Value) : (a.put (some d) v).tmps[t]? = if d = t then (a.tmps[t]?).map (fun _ => v) else a.tmps[t]? := by
  simp only [Act.put]
  rw [Array.getElem?_setIfInBounds]
  by_cases h : d = t
  · subst h
    by_cases h2 : d < a.tmps.size
    · simp [h2]
    · simp [h2]
  · simp [h]
theorem put_defers_ (a : Act) (d : Option Tmp) (v : Value) : (a.put d v).defers = a.defers := by cases d <;> rfl

/-- What okR says. -/
structure Okay (ops : Array Oper) : Prop where
  sel : Region.noSelect ops = true
  back : ∀ (k : Nat) (ok : Oper), ops[k]? = some ok → ∀ e ∈ ok.after, Region.binds .any e = true → e.on < k
  once : ∀ (k j : Nat) (ok oj : Oper) (d : Tmp), ops[k]? = some ok → ops[j]? = some oj → j ≠ k → oj.dst = some d → ok.dst ≠ some d
  look : ∀ (k j : Nat) (ok oj : Oper) (d : Tmp), ops[k]? = some ok → ops[j]? = some oj → j ≠ k → oj.dst = some d → d ∈ ok.looksAt ops → (j < k → dep ok j = true) ∧ (k < j → dep oj k = true)

theorem okR_spec (h : okR ops = true) : Okay ops := by
  unfold okR at h
  rw [Bool.and_eq_true, List.all_eq_true] at h
  obtain ⟨h1, h2⟩ := h
  have key : ∀ k ok, ops[k]? = some ok → (ok.after.all (fun e => !Region.binds .any e || decide (e.on < k)) = true) ∧
      ∀ j oj, ops[j]? = some oj → j ≠ k → ∀ d, oj.dst = some d → ok.dst ≠ some d ∧ (d ∈ ok.looksAt ops → (if j < k then dep ok j else dep oj k) = true) := by
    intro k ok hk
    have hlt : k < ops.size := (Array.getElem?_eq_some_iff.1 hk).1
    have := h2 k (List.mem_range.2 hlt)
    simp only [hk, Bool.and_eq_true, List.all_eq_true] at this
    refine ⟨this.1, fun j oj hj hne d hd => ?_⟩
    have hjl : j < ops.size := (Array.getElem?_eq_some_iff.1 hj).1
    have h3 := this.2 j (List.mem_range.2 hjl)
    simp only [hj, hd, Bool.or_eq_true, beq_iff_eq, hne, false_or, Bool.and_eq_true, bne_iff_ne, ne_eq, Bool.not_eq_true', List.contains_eq_mem, decide_eq_false_iff_not] at h3
    exact ⟨h3.1, fun hm => h3.2.resolve_left (fun hn => hn hm)⟩
  refine ⟨h1, fun k ok hk e he hb => ?_, fun k j ok oj d hk hj hne hd => ((key k ok hk).2 j oj hj hne d hd).1, fun k j ok oj d hk hj hne hd hm => ?_⟩
  · have := Array.all_eq_true_iff_forall_mem.1 (key k ok hk).1 e he
    simpa [hb] using this
  · have := ((key k ok hk).2 j oj hj hne d hd).2 hm
    constructor
    · intro hlt; rwa [if_pos hlt] at this
    · intro hlt; rwa [if_neg (by omega)] at this

theorem An_step (A0 : Act) (Ks : List Kn) (us : Nat → Value) (i : Nat) :
    (∃ o κ, ops[i]? = some o ∧ Ks[i]? = some κ ∧ An ops A0 Ks (i + 1) us = (An ops A0 Ks i us).put o.dst (κ.val (us i))) ∨ An ops A0 Ks (i + 1) us = An ops A0 Ks i us := by
  cases ho : ops[i]? with
  | none => exact .inr (by simp only [An, ho])
  | some o =>
    cases hκ : Ks[i]? with
    | none => exact .inr (by simp only [An, ho, hκ])
    | some κ => exact .inl ⟨o, κ, rfl, rfl, by simp only [An, ho, hκ, Aput]⟩

theorem An_slot_not (A0 : Act) (Ks : List Kn) (us : Nat → Value) (t : Nat) : ∀ i, (∀ j o, j < i → ops[j]? = some o → o.dst ≠ some t) → (An ops A0 Ks i us).tmps[t]? = A0.tmps[t]?
  | 0, _ => rfl
  | i + 1, h => by
    have ih := An_slot_not A0 Ks us t i fun j o hj => h j o (by omega)
    rcases An_step (ops := ops) A0 Ks us i with ⟨o, κ, ho, hκ, e⟩ | e <;> rw [e]
    · cases hd : o.dst with
      | none => exact ih
      | some d =>
        have hne : d ≠ t := fun e => h i o (by omega) ho (by rw [hd, e])
        rw [put_slot, if_neg hne, ih]
    · exact ih

theorem An_slot_at (hok : Okay ops) (A0 : Act) (Ks : List Kn) (us : Nat → Value) (t j : Nat) (o : Oper) (κ : Kn) (ho : ops[j]? = some o) (hκ : Ks[j]? = some κ) (hd : o.dst = some t) : ∀ i, j < i →
    (An ops A0 Ks i us).tmps[t]? = (A0.tmps[t]?).map fun _ => κ.val (us j)
  | 0, h => absurd h (by omega)
  | i + 1, h => by
    by_cases hji : j = i
    · subst hji
      have h0 := An_slot_not (ops := ops) A0 Ks us t j fun j' o' hj' ho' => hok.once j' j o' o t ho' ho (by omega) hd
      simp only [An, ho, hκ, Aput, hd]
      rw [put_slot, if_pos rfl, h0]
    · have ih := An_slot_at hok A0 Ks us t j o κ ho hκ hd i (by omega)
      rcases An_step (ops := ops) A0 Ks us i with ⟨o', κ', ho', hκ', e⟩ | e <;> rw [e]
      · cases hd' : o'.dst with
        | none => exact ih
        | some d =>
          have hne : d ≠ t := fun e => hok.once i j o' o t ho' ho (by omega) hd (by rw [hd', e])
          rw [put_slot, if_neg hne, ih]
      · exact ih
theorem An_defers (A0 : Act) (Ks : List Kn) (us : Nat → Value) : ∀ i, (An ops A0 Ks i us).defers = A0.defers
  | 0 => rfl
  | i + 1 => by
    rcases An_step (ops := ops) A0 Ks us i with ⟨o, κ, ho, hκ, e⟩ | e <;> rw [e]
    · rw [put_defers_]; exact An_defers A0 Ks us i
    · exact An_defers A0 Ks us i

theorem eval_slot {a b : Act} {x : Operand} (h : ∀ t, x = .tmp t → a.tmps[t]? = b.tmps[t]?) : a.eval x = b.eval x := by
  cases x with
  | tmp t =>
    have := h t rfl
    simp only [Act.eval, Array.getD_eq_getD_getElem?, this]
  | _ => rfl

theorem wanted_slot {a b : Act} {o : Oper} (h : ∀ t, t ∈ o.looksAt ops → a.tmps[t]? = b.tmps[t]?) : Region.wanted o (yielded ops a.tmps) = Region.wanted o (yielded ops b.tmps) := by
  unfold Region.wanted
  cases hg : o.guard with
  | none => rfl
  | some gw =>
    obtain ⟨g, want⟩ := gw
    have hy : yielded ops a.tmps g = yielded ops b.tmps g := by
      unfold yielded
      cases ht : (ops[g]?).bind (·.dst) with
      | none => rfl
      | some t =>
        have := h t (by simp [Oper.looksAt, hg, ht])
        simp [this]
    simp only [hy]

theorem exec_slot {a b : Act} {o : Oper} (hs : ∀ cs b, o.op ≠ .select cs b) (h : ∀ t, t ∈ o.looksAt ops → a.tmps[t]? = b.tmps[t]?) : execOp a.eval o = execOp b.eval o :=
  execOp_congr o hs fun x hx => eval_slot fun t ht => h t (by
    subst ht
    exact List.mem_append_left _ (List.mem_filterMap.2 ⟨.tmp t, by simpa using hx, rfl⟩))

theorem hyp_of {us : Nat → Value} {w : World} {kc : Nat} {o : Oper} {Ks : List Kn} : ∀ i, (∀ j κ, j < i → Ks[j]? = some κ → (∀ S n, κ = .lin S n → kc = n) → ((∀ S n, κ ≠ .lin S n) → dep o j = true) → κ.fact us j w) → Hyp us w kc o (Fn Ks i)
  | 0, _ => trivial
  | i + 1, h => by
    have ih := hyp_of (Ks := Ks) (us := us) (w := w) (kc := kc) (o := o) i fun j κ hj => h j κ (by omega)
    unfold Fn
    split
    · rename_i κ hκ
      cases κ with
      | off => exact ih
      | det v => exact ih
      | sat S => exact ⟨fun hd => h i _ (by omega) hκ (fun _ _ e => by cases e) (fun _ => hd), ih⟩
      | lin S n => exact ⟨fun hn => h i _ (by omega) hκ (fun _ _ e => by cases e; exact hn) (fun h => absurd rfl (h _ _)), ih⟩
      | two j0 S => exact ⟨fun hd => h i _ (by omega) hκ (fun _ _ e => by cases e) (fun _ => hd), ih⟩
    · exact ih
theorem alls_of {us : Nat → Value} {w : World} {Ks : List Kn} : ∀ i, (∀ (j : Nat) (κ : Kn), j < i → Ks[j]? = some κ → (∀ S n, κ ≠ .lin S n) → κ.fact us j w) → Alls us w (Fn Ks i)
  | 0, _ => trivial
  | i + 1, h => by
    have ih := alls_of (Ks := Ks) (us := us) (w := w) i fun j S hj => h j S (by omega)
    unfold Fn
    split
    · rename_i κ hκ
      cases κ with
      | off => exact ih
      | det v => exact ih
      | sat S => exact ⟨fun _ => h i _ (by omega) hκ (fun _ _ e => by cases e), ih⟩
      | lin S n => exact ⟨fun e => e.elim, ih⟩
      | two j0 S => exact ⟨fun _ => h i _ (by omega) hκ (fun _ _ e => by cases e), ih⟩
    · exact ih

/-- What holds in the midst of any order. -/
structure Mid (ops : Array Oper) (R : World → World → Prop) (w0 : World) (A0 : Act) (Ks : List Kn) (us : Nat → Value) (listed : Array Bool) (a : Act) (w : World) : Prop where
  size : listed.size = ops.size
  grown : R w0 w
  defers : a.defers = A0.defers
  shut : ∀ j o, ops[j]? = some o → listed.getD j false = true → ∀ e ∈ o.after, Region.binds .any e = true → listed.getD e.on false = true
  rest : ∀ t, (∀ j o, ops[j]? = some o → o.dst = some t → listed.getD j false = false) → a.tmps[t]? = A0.tmps[t]?
  done : ∀ j o κ t, ops[j]? = some o → Ks[j]? = some κ → listed.getD j false = true → o.dst = some t → a.tmps[t]? = (A0.tmps[t]?).map fun _ => κ.val (us j)
  fact : ∀ (j : Nat) (κ : Kn), Ks[j]? = some κ → listed.getD j false = true → κ.live listed → κ.fact us j w

theorem dep_on {o : Oper} {j : Nat} (h : dep o j = true) : ∃ e ∈ o.after, Region.binds .any e = true ∧ e.on = j := by
  unfold dep at h
  obtain ⟨e, he, hb⟩ := List.any_eq_true.1 h
  simp only [Bool.and_eq_true, beq_iff_eq] at hb
  exact ⟨e, Array.mem_toList_iff.1 he, hb.1, hb.2⟩

theorem Mid.slots (hok : Okay ops) {A0 : Act} {Ks : List Kn} (hKs : Ks.length = ops.size) {us : Nat → Value} {listed : Array Bool} {a : Act} {w : World} (h : Mid ops R w0 A0 Ks us listed a w)
    {k : Nat} {o : Oper} (ho : ops[k]? = some o) (hun : listed.getD k false = false) (hr : ∀ e ∈ o.after, Region.binds .any e = true → listed.getD e.on false = true) :
    ∀ t, t ∈ o.looksAt ops → a.tmps[t]? = (An ops A0 Ks k us).tmps[t]? := by
  intro t ht
  by_cases hw : ∃ (j : Nat) (oj : Oper), ops[j]? = some oj ∧ oj.dst = some t
  · obtain ⟨j, oj, hj, hd⟩ := hw
    have hKj : Ks[j]? = some (Ks[j]'(by rw [hKs]; exact (Array.getElem?_eq_some_iff.1 hj).1)) := List.getElem?_eq_getElem _
    have only : ∀ j' o', ops[j']? = some o' → o'.dst = some t → j' = j := fun j' o' hj' hd' => Classical.byContradiction fun hne => hok.once j' j o' oj t hj' hj (fun e => hne e.symm) hd hd'
    rcases Nat.lt_trichotomy j k with hlt | heq | hgt
    · obtain ⟨e, he, hb, hon⟩ := dep_on ((hok.look k j o oj t ho hj (by omega) hd ht).1 hlt)
      have hl := hr e he hb
      rw [hon] at hl
      rw [h.done j oj _ t hj hKj hl hd, An_slot_at hok A0 Ks us t j oj _ hj hKj hd k hlt]
    · subst heq
      rw [h.rest t fun j' o' hj' hd' => by rw [only j' o' hj' hd']; exact hun, An_slot_not A0 Ks us t j fun j' o' hlt hj' hd' => by have := only j' o' hj' hd'; omega]
    · have hnl : listed.getD j false = false := by
        cases hl : listed.getD j false with
        | false => rfl
        | true =>
          obtain ⟨e, he, hb, hon⟩ := dep_on ((hok.look k j o oj t ho hj (by omega) hd ht).2 hgt)
          have := h.shut j oj hj hl e he hb
          rw [hon, hun] at this; cases this
      rw [h.rest t fun j' o' hj' hd' => by rw [only j' o' hj' hd']; exact hnl, An_slot_not A0 Ks us t k fun j' o' hlt hj' hd' => by have := only j' o' hj' hd'; omega]
  · rw [h.rest t fun j' o' hj' hd' => absurd ⟨j', o', hj', hd'⟩ hw, An_slot_not A0 Ks us t k fun j' o' hlt hj' hd' => absurd ⟨j', o', hj', hd'⟩ hw]

theorem anc_listed {listed : Array Bool} (hs : ∀ j o, ops[j]? = some o → listed.getD j false = true → ∀ e ∈ o.after, Region.binds .any e = true → listed.getD e.on false = true) {j k : Nat} (h : Anc ops j k)
    (hl : listed.getD j false = true) : listed.getD k false = true := by
  induction h with
  | one ho hd =>
    obtain ⟨e, he, hb, hon⟩ := dep_on hd
    rw [← hon]; exact hs _ _ ho hl e he hb
  | more ho hd _ ih =>
    obtain ⟨e, he, hb, hon⟩ := dep_on hd
    refine ih ?_
    rw [← hon]; exact hs _ _ ho hl e he hb

theorem getD_set_same {listed : Array Bool} {k : Nat} (h : k < listed.size) : (listed.setIfInBounds k true).getD k false = true := by
  simp [h]

/-- One operation more. -/
theorem Mid.step (hok : Okay ops) (htr : ∀ k a b c, R a b → E k b c → R a c) {A0 : Act} {Ks : List Kn} (hKs : Ks.length = ops.size) (hst : ∀ (j : Nat) (κ : Kn), Ks[j]? = some κ → ∀ m, m ≠ j → (∀ S, κ ≠ .lin S m) → Anc ops j m ∨ (∃ S n, κ = .lin S n ∧ Anc ops m n) ∨ (∀ us w w', κ.fact us j w → E m w w' → κ.fact us j w'))
    {us us' : Nat → Value} {listed : Array Bool} {a : Act} {w w' : World} (h : Mid ops R w0 A0 Ks us listed a w)
    {k : Nat} {o : Oper} {κ : Kn} (ho : ops[k]? = some o) (hκ : Ks[k]? = some κ) (hun : listed.getD k false = false) (hr : ∀ e ∈ o.after, Region.binds .any e = true → listed.getD e.on false = true)
    (htwo : ∀ (j j0 : Nat) (S : Value → Value → World → Prop) (oj : Oper), Ks[j]? = some (.two j0 S) → ops[j]? = some oj → dep oj j0 = true) (hus : ∀ j, j ≠ k → us' j = us j) (hE : E k w w') (hf : κ.fact us' k w') : Mid ops R w0 A0 Ks us' (listed.setIfInBounds k true) (a.put o.dst (κ.val (us' k))) w' := by
  have hlt : k < listed.size := by rw [h.size]; exact (Array.getElem?_eq_some_iff.1 ho).1
  have hne : ∀ j, j ≠ k → (listed.setIfInBounds k true).getD j false = listed.getD j false := fun j hj => getD_set_ne false (Ne.symm hj)
  have hmono : ∀ j, listed.getD j false = true → (listed.setIfInBounds k true).getD j false = true := fun j hj => by
    by_cases e : j = k
    · rw [e]; exact getD_set_same hlt
    · rw [hne j e]; exact hj
  refine ⟨by simp [h.size], htr k _ _ _ h.grown hE, by rw [put_defers_, h.defers], ?_, ?_, ?_, ?_⟩
  · intro j oj hj hl e he hb
    by_cases e2 : j = k
    · subst e2
      rw [ho] at hj; cases hj
      exact hmono _ (hr e he hb)
    · rw [hne j e2] at hl
      exact hmono _ (h.shut j oj hj hl e he hb)
  · intro t ht
    have hkt : o.dst ≠ some t := fun e => by have := ht k o ho e; rw [getD_set_same hlt] at this; cases this
    have hold : a.tmps[t]? = A0.tmps[t]? := h.rest t fun j oj hj hd => by
      have h1 := ht j oj hj hd
      by_cases e2 : j = k
      · subst e2; rw [getD_set_same hlt] at h1; cases h1
      · rwa [hne j e2] at h1
    cases hd : o.dst with
    | none => exact hold
    | some d => rw [put_slot, if_neg (fun e => hkt (by rw [hd, e])), hold]
  · intro j oj κ' t hj hκ' hl hd
    by_cases e2 : j = k
    · subst e2
      rw [ho] at hj; cases hj
      rw [hκ] at hκ'; cases hκ'
      rw [hd, put_slot, if_pos rfl, h.rest t fun j' o' hj' hd' => by
        by_cases e3 : j' = j
        · rw [e3]; exact hun
        · exact absurd hd' (hok.once j' j o' o t hj' ho (fun e => e3 e.symm) hd)]
    · rw [hne j e2] at hl
      have := h.done j oj κ' t hj hκ' hl hd
      rw [hus j e2]
      cases hd' : o.dst with
      | none => exact this
      | some d => rw [put_slot, if_neg (fun e => hok.once k j o oj t ho hj e2 hd (by rw [hd', e])), this]
  · intro j κ' hκ' hl hlive
    by_cases e2 : j = k
    · subst e2
      rw [hκ] at hκ'; cases hκ'
      exact hf
    · rw [hne j e2] at hl
      have hfu : ∀ w, κ'.fact us j w → κ'.fact us' j w := by
        intro w hf
        cases κ' with
        | off => trivial
        | det v => trivial
        | sat S => show S (us' j) w; rw [hus j e2]; exact hf
        | lin S n => show S (us' j) w; rw [hus j e2]; exact hf
        | two j0 S =>
          have hlj : j < ops.size := by rw [← hKs]; exact (List.getElem?_eq_some_iff.1 hκ').1
          have hoj : ops[j]? = some ops[j] := Array.getElem?_eq_getElem hlj
          have hd := htwo j j0 S _ hκ' hoj
          have h0 : j0 ≠ k := by
            intro e
            obtain ⟨ed, he, hb, hon⟩ := dep_on hd
            have h1 := h.shut j _ hoj hl ed he hb
            rw [hon, e, hun] at h1; cases h1
          show S (us' j0) (us' j) w
          rw [hus j e2, hus j0 h0]; exact hf
      have hnl : ∀ S, κ' ≠ .lin S k := by
        intro S e
        rw [e] at hlive
        have h1 : (listed.setIfInBounds k true).getD k false = false := hlive
        rw [getD_set_same hlt] at h1; cases h1
      have hlive' : κ'.live listed := by
        cases κ' with
        | lin S n =>
          have h1 : (listed.setIfInBounds k true).getD n false = false := hlive
          have hnk : n ≠ k := fun e => hnl S (by rw [e])
          rw [hne n hnk] at h1
          exact h1
        | off => trivial
        | det v => trivial
        | sat S => trivial
        | two j0 S => trivial
      rcases hst j κ' hκ' k (fun e => e2 e.symm) hnl with hanc | ⟨S, n, e3, hanc⟩ | hS
      · have := anc_listed h.shut hanc hl
        rw [hun] at this; cases this
      · subst e3
        have h1 : listed.getD n false = false := hlive'
        have h2 : listed.getD n false = true := by
          cases hanc with
          | one ho' hd' =>
            rw [ho] at ho'; cases ho'
            obtain ⟨e, he, hb, hon⟩ := dep_on hd'
            rw [← hon]; exact hr e he hb
          | more ho' hd' hrest =>
            rw [ho] at ho'; cases ho'
            obtain ⟨e, he, hb, hon⟩ := dep_on hd'
            exact anc_listed h.shut hrest (by rw [← hon]; exact hr e he hb)
        rw [h1] at h2; cases h2
      · exact hfu _ (hS us _ _ (h.fact j κ' hκ' hl hlive') hE)

def left : Nat → Array Bool → Nat
  | 0, _ => 0
  | m + 1, l => left m l + if l.getD m false then 0 else 1
theorem left_zero {l : Array Bool} : ∀ {n : Nat}, left n l = 0 → ∀ j, j < n → l.getD j false = true
  | 0, _, j, hj => absurd hj (by omega)
  | m + 1, h, j, hj => by
    unfold left at h
    by_cases e : j = m
    · subst e
      cases hl : l.getD j false with
      | true => rfl
      | false => rw [hl] at h; simp at h
    · exact left_zero (n := m) (by omega) j (by omega)
theorem left_far {l : Array Bool} {k : Nat} : ∀ {n : Nat}, n ≤ k → left n (l.setIfInBounds k true) = left n l
  | 0, _ => rfl
  | m + 1, h => by
    unfold left
    rw [left_far (n := m) (by omega), getD_set_ne false (by omega)]
theorem left_set {l : Array Bool} {k : Nat} (hs : k < l.size) (hf : l.getD k false = false) : ∀ {n : Nat}, k < n → left n (l.setIfInBounds k true) + 1 = left n l
  | 0, h => absurd h (by omega)
  | m + 1, h => by
    unfold left
    by_cases e : k = m
    · subst e
      rw [left_far (Nat.le_refl _), getD_set_same hs, hf]; simp
    · rw [getD_set_ne false e, ← left_set hs hf (n := m) (by omega)]; omega

theorem gu_upon {e : World → World → Prop} {o : Oper} {a : Act} {w : World} {S : Value → World → Prop} {K : Act → World → Prop} {r : Result Next} (hg : Gu P e w S r)
    (hK : ∀ u w', e w w' → S u w' → K (a.put o.dst u) w') : o.upon P a K Q r := by
  cases r with
  | ok n w' =>
    cases n <;> simp only [Gu] at hg <;> simp only [Oper.upon]
    case value u => exact hK _ _ hg.1 hg.2
    case skip => exact hK _ _ hg.1 hg.2
    case enter f args =>
      refine hg.mono fun e w'' ⟨u, he, h1, h2⟩ => ?_
      subst he
      exact hK _ _ h1 h2
  | halt x w' => simp only [Gu] at hg

theorem wpAny_grow (hok : Okay ops) (hrf : ∀ k a, E k a a) (htr : ∀ k a b c, R a b → E k b c → R a c) {A0 : Act} {Ks : List Kn} (hKs : Ks.length = ops.size) (hst : ∀ (j : Nat) (κ : Kn), Ks[j]? = some κ → ∀ m, m ≠ j → (∀ S, κ ≠ .lin S m) → Anc ops j m ∨ (∃ S n, κ = .lin S n ∧ Anc ops m n) ∨ (∀ us w w', κ.fact us j w → E m w w' → κ.fact us j w'))
    (hob : ∀ (i : Nat) (o : Oper) (κ : Kn), ops[i]? = some o → Ks[i]? = some κ → ObOf P ops E R w0 i o (An ops A0 Ks i) (Fn Ks i) κ)
    (hend : ∀ us w, R w0 w → Alls us w (Fn Ks ops.size) → Q .normal (An ops A0 Ks ops.size us) w) :
    ∀ (fuel : Nat) (listed : Array Bool) (us : Nat → Value) (a : Act) (w : World), left ops.size listed ≤ fuel → Mid ops R w0 A0 Ks us listed a w → wpAny P .any ops Q fuel listed a w := by
  have fin : ∀ (listed : Array Bool) (us : Nat → Value) (a : Act) (w : World), (∀ j, j < ops.size → listed.getD j false = true) → Mid ops R w0 A0 Ks us listed a w → Q .normal a w := by
    intro listed us a w hall h
    have ha : a = An ops A0 Ks ops.size us := by
      have hd : a.defers = (An ops A0 Ks ops.size us).defers := by rw [h.defers, An_defers]
      have ht : a.tmps = (An ops A0 Ks ops.size us).tmps := by
        apply Array.ext_getElem?
        intro t
        by_cases hw : ∃ (j : Nat) (oj : Oper), ops[j]? = some oj ∧ oj.dst = some t
        · obtain ⟨j, oj, hj, hdj⟩ := hw
          have hjl := (Array.getElem?_eq_some_iff.1 hj).1
          have hKj : Ks[j]? = some (Ks[j]'(by rw [hKs]; exact hjl)) := List.getElem?_eq_getElem _
          rw [h.done j oj _ t hj hKj (hall j hjl) hdj, An_slot_at hok A0 Ks us t j oj _ hj hKj hdj _ hjl]
        · rw [h.rest t fun j' o' hj' hd' => absurd ⟨j', o', hj', hd'⟩ hw, An_slot_not A0 Ks us t _ fun j' o' hlt hj' hd' => absurd ⟨j', o', hj', hd'⟩ hw]
      cases a
      simp only at hd ht
      rw [hd, ht]
    rw [ha]
    refine hend us w h.grown (alls_of _ fun j κ hj hκ hnl => h.fact j _ hκ (hall j hj) (by cases κ <;> first | trivial | exact absurd rfl (hnl _ _)))
  have full : ∀ listed : Array Bool, listed.size = ops.size → Region.ready .any ops listed = [] → ∀ j, j < ops.size → listed.getD j false = true := by
    intro listed hs hr
    intro j
    induction j using Nat.strongRecOn with
    | ind j ih =>
      intro hj
      cases hl : listed.getD j false with
      | true => rfl
      | false =>
        exfalso
        have hoj : ops[j]? = some ops[j] := Array.getElem?_eq_getElem hj
        have hmem : j ∈ Region.ready .any ops listed := mem_ready.2 ⟨by
          have : j < listed.size := by omega
          simp [this] at hl ⊢
          exact hl, ops[j], hoj, fun e he hb => ih e.on (hok.back j _ hoj e he hb) (by have := hok.back j _ hoj e he hb; omega)⟩
        rw [hr] at hmem; cases hmem
  intro fuel
  induction fuel with
  | zero =>
    intro listed us a w hf h
    have hall := left_zero (l := listed) (n := ops.size) (by omega)
    refine ⟨?_, fin listed us a w hall h⟩
    apply List.eq_nil_iff_forall_not_mem.2
    intro j hj
    obtain ⟨h1, o, ho, _⟩ := mem_ready.1 hj
    have hlt := (Array.getElem?_eq_some_iff.1 ho).1
    have h2 := hall j hlt
    have : j < listed.size := by rw [h.size]; exact hlt
    simp [this] at h1 h2
    rw [h1] at h2; cases h2
  | succ fuel ih =>
    intro listed us a w hf h
    refine ⟨fun hr => fin listed us a w (full listed h.size hr) h, fun k hk => ?_⟩
    obtain ⟨h1, o, ho, hr⟩ := mem_ready.1 hk
    have hlt := (Array.getElem?_eq_some_iff.1 ho).1
    have hls : k < listed.size := by rw [h.size]; exact hlt
    have hun : listed.getD k false = false := by
      simp [hls] at h1 ⊢
      exact h1
    have hKk : Ks[k]? = some (Ks[k]'(by rw [hKs]; exact hlt)) := List.getElem?_eq_getElem _
    generalize hκ : Ks[k]'(by rw [hKs]; exact hlt) = κ at hKk
    have hO := hob k o κ ho hKk
    have hslot := h.slots hok hKs ho hun hr
    have hw := wanted_slot (ops := ops) (o := o) hslot
    have he := exec_slot (ops := ops) (o := o) (fun cs b => Region.noSelect_spec hok.sel k o cs b ho) hslot
    have hleft : left ops.size (listed.setIfInBounds k true) ≤ fuel := by have := left_set hls hun (n := ops.size) hlt; omega
    have hhyp : Hyp us w k o (Fn Ks k) := hyp_of _ fun j κ' hj hκ' hlin hd => by
      have hdj : dep o j = true := by
        cases κ' with
        | lin S n =>
          have hlj : j < ops.size := by rw [← hKs]; exact (List.getElem?_eq_some_iff.1 hκ').1
          have hoj : ops[j]? = some ops[j] := Array.getElem?_eq_getElem hlj
          have h3 := (hob j _ _ hoj hκ').1
          rw [← hlin S n rfl] at h3
          unfold depOf at h3
          rw [ho] at h3
          exact h3
        | off => exact hd (fun _ _ e => by cases e)
        | det v => exact hd (fun _ _ e => by cases e)
        | sat S => exact hd (fun _ _ e => by cases e)
        | two j0 S => exact hd (fun _ _ e => by cases e)
      obtain ⟨e, he', hb, hon⟩ := dep_on hdj
      have := hr e he' hb
      rw [hon] at this
      refine h.fact j κ' hκ' this ?_
      cases κ' with
      | lin S n =>
        show listed.getD n false = false
        rw [← hlin S n rfl]; exact hun
      | off => trivial
      | det v => trivial
      | sat S => trivial
      | two j0 S => trivial
    have htwo : ∀ (j j0 : Nat) (S : Value → Value → World → Prop) (oj : Oper), Ks[j]? = some (.two j0 S) → ops[j]? = some oj → dep oj j0 = true := fun j j0 S oj h1 h2 => (hob j oj _ h2 h1).1
    unfold wpOp
    simp only [ho]
    cases κ with
    | off =>
      rw [hw, hO us]
      simp only [Bool.false_eq_true, if_false]
      exact ih _ us _ _ hleft (h.step hok htr hKs hst (us' := us) ho hKk hun hr htwo (fun _ _ => rfl) (hrf k _) trivial)
    | det v =>
      rw [hw, hO.1 us]
      simp only [if_true]
      refine .inl ?_
      unfold Oper.wp
      rw [he]
      refine gu_upon (hO.2 us w h.grown hhyp) fun u w' hE hS => ?_
      subst hS
      exact ih _ us _ _ hleft (h.step hok htr hKs hst (us' := us) ho hKk hun hr htwo (fun _ _ => rfl) hE trivial)
    | lin S n =>
      rw [hw, hO.2.2.1 us]
      simp only [if_true]
      refine .inl ?_
      unfold Oper.wp
      rw [he]
      refine gu_upon (hO.2.2.2 us w h.grown hhyp) fun u w' hE hS => ?_
      have := h.step hok htr hKs hst (us' := fun j => if j = k then u else us j) ho hKk hun hr htwo (fun j hj => if_neg hj) hE (by simpa [Kn.fact] using hS)
      refine ih _ (fun j => if j = k then u else us j) _ _ hleft ?_
      simpa [Kn.val] using this
    | sat S =>
      rw [hw, hO.2.1 us]
      simp only [if_true]
      refine .inl ?_
      unfold Oper.wp
      rw [he]
      refine gu_upon (hO.2.2 us w h.grown hhyp) fun u w' hE hS => ?_
      have := h.step hok htr hKs hst (us' := fun j => if j = k then u else us j) ho hKk hun hr htwo (fun j hj => if_neg hj) hE (by simpa [Kn.fact] using hS)
      refine ih _ (fun j => if j = k then u else us j) _ _ hleft ?_
      simpa [Kn.val] using this
    | two j0 S =>
      rw [hw, hO.2.2.1 us]
      simp only [if_true]
      refine .inl ?_
      unfold Oper.wp
      rw [he]
      refine gu_upon (hO.2.2.2 us w h.grown hhyp) fun u w' hE hS => ?_
      have hne : j0 ≠ k := by
        intro e
        obtain ⟨ed, he, hb, hon⟩ := dep_on hO.1
        have h1 := hr ed he hb
        rw [hon, e, hun] at h1; cases h1
      have := h.step hok htr hKs hst (us' := fun j => if j = k then u else us j) ho hKk hun hr htwo (fun j hj => if_neg hj) hE (by show S (if j0 = k then u else us j0) (if k = k then u else us k) w'; rw [if_neg hne, if_pos rfl]; exact hS)
      refine ih _ (fun j => if j = k then u else us j) _ _ hleft ?_
      simpa [Kn.val] using this

theorem wp_region_grow {id : Nat} {a : Act} {w : World} (hm : P.follows .mixedOrders = true) (hR : okR ops = true) (hrf : ∀ k a, E k a a) (htr : ∀ k a b c, R a b → E k b c → R a c) (hdr : R w w.drew)
    (h : wpG P ops E R w Q ops.toList 0 (fun _ => a) []) : (Code.region id ops true).wp P Q a w := by
  have hok := okR_spec hR
  obtain ⟨Ks, hlen, hob, hend⟩ := wpG_extract (ops := ops) a ops.toList 0 [] rfl (fun j => by simp) h
  simp only [List.nil_append, Nat.zero_add, Array.length_toList] at hlen hob hend
  have hst : ∀ (j : Nat) (κ : Kn), Ks[j]? = some κ → ∀ m, m ≠ j → (∀ S, κ ≠ .lin S m) → Anc ops j m ∨ (∃ S n, κ = .lin S n ∧ Anc ops m n) ∨ (∀ us w w', κ.fact us j w → E m w w' → κ.fact us j w') := by
    intro j κ hκ m hm hnl
    have hj : j < Ks.length := (List.getElem?_eq_some_iff.1 hκ).1
    have hoj : ops[j]? = some (ops[j]'(by omega)) := Array.getElem?_eq_getElem _
    have := hob j _ κ (Nat.zero_le _) hoj hκ
    cases κ with
    | off => exact .inr (.inr fun u w w' _ _ => trivial)
    | det v => exact .inr (.inr fun u w w' _ _ => trivial)
    | sat S => exact (this.1 m hm).imp (fun h => h) (fun h => .inr fun us w w' h1 h2 => h _ _ _ h1 h2)
    | lin S n => exact (this.2.1 m hm (fun e => hnl S (by rw [e]))).imp (fun h => h) (Or.imp (fun h => ⟨S, n, rfl, h⟩) (fun h us w w' h1 h2 => h _ _ _ h1 h2))
    | two j0 S => exact (this.2.1 m hm).imp (fun h => h) (fun h => .inr fun us w w' h1 h2 => h _ _ _ _ h1 h2)
  refine wp_region_any hm (wpAny_grow hok hrf htr hlen hst (fun i o κ ho hκ => hob i o κ (Nat.zero_le _) ho hκ) hend ops.size (Array.replicate ops.size false) (fun _ => undef) a _ ?_ ?_)
  · have : ∀ n l, left n l ≤ n := by
      intro n
      induction n with
      | zero => intro l; exact Nat.le_refl _
      | succ n ih => intro l; unfold left; have := ih l; split <;> omega
    exact this _ _
  · have hno : ∀ j, (Array.replicate ops.size false).getD j false = false := by
      intro j
      simp only [Array.getD_eq_getD_getElem?, Array.getElem?_replicate]
      split <;> rfl
    refine ⟨by simp, hdr, rfl, fun j o _ hl => ?_, fun t _ => rfl, fun j o κ t _ _ hl => ?_, fun j κ _ hl _ => ?_⟩
    all_goals (rw [hno] at hl; cases hl)

/-- Memory grows. -/
def Gr (a b : World) : Prop := Below a.heap.size a b
theorem Gr.refl (a : World) : Gr a a := Below.refl _ _
theorem Gr.trans (a b c : World) (h : Gr a b) (k : Gr b c) : Gr a c := Below.trans h (k.mono h.size)
theorem wp_region_gr {id : Nat} {a : Act} {w : World} {l : List Oper} (hm : P.follows .mixedOrders = true) (hR : okR l.toArray = true)
    (h : wpG P l.toArray (fun _ => Gr) Gr w Q l 0 (fun _ => a) []) : (Code.region id l.toArray true).wp P Q a w :=
  wp_region_grow hm hR (fun _ => Gr.refl) (fun _ => Gr.trans) (Below.drew (Below.refl _ _)) (by simpa using h)

/-- What a call comes to. -/
def GuC (E : World → World → Prop) (w : World) (S : Value → World → Prop) (e : Ending) (w'' : World) : Prop := ∃ u, e = .returned u ∧ E w w'' ∧ S u w''
def GuV (E : World → World → Prop) (w : World) (S : Value → World → Prop) (u : Value) (w' : World) : Prop := E w w' ∧ S u w'
/-- An operation's result: what the walk's simp may open. -/
def Gv (P : Program) (E : World → World → Prop) (w : World) (S : Value → World → Prop) : Result Next → Prop
  | .ok (.value u) w' => GuV E w S u w'
  | .ok .skip w' => GuV E w S undef w'
  | .ok (.enter f args) w' => Calls P f args w' (GuC E w S)
  | _ => False
theorem gu_of_gv {E : World → World → Prop} {w : World} {S : Value → World → Prop} {r : Result Next} (h : Gv P E w S r) : Gu P E w S r := by
  cases r with
  | ok n w' => cases n <;> first | exact h | exact h.elim
  | halt x w' => exact h.elim

theorem wpG_det {o : Oper} {l : List Oper} {k : Nat} {A A' : (Nat → Value) → Act} {F : List (Nat × ((Nat → Value) → World → Prop) × Option Nat)} {v : Value}
    (hw : ∀ us, Region.wanted o (yielded ops (A us).tmps) = true) (hr : ∀ us w, R w0 w → Hyp us w k o F → Gv P (E k) w (fun u _ => u = v) ((execOp (A us).eval o).run P w))
    (hA : ∀ us, (A us).put o.dst v = A' us) (hk : wpG P ops E R w0 Q l (k + 1) A' F) : wpG P ops E R w0 Q (o :: l) k A F :=
  ⟨.det v, ⟨hw, fun us w h1 h2 => gu_of_gv (hr us w h1 h2)⟩, (funext hA : Aput A o k (.det v) = A') ▸ hk⟩
theorem wpG_off {o : Oper} {l : List Oper} {k : Nat} {A A' : (Nat → Value) → Act} {F : List (Nat × ((Nat → Value) → World → Prop) × Option Nat)}
    (hw : ∀ us, Region.wanted o (yielded ops (A us).tmps) = false)
    (hA : ∀ us, (A us).put o.dst undef = A' us) (hk : wpG P ops E R w0 Q l (k + 1) A' F) : wpG P ops E R w0 Q (o :: l) k A F :=
  ⟨.off, hw, (funext hA : Aput A o k .off = A') ▸ hk⟩
theorem wpG_sat' {o : Oper} {l : List Oper} {k : Nat} {A A' : (Nat → Value) → Act} {F : List (Nat × ((Nat → Value) → World → Prop) × Option Nat)} (S : Value → World → Prop) (hS : ∀ m, m ≠ k → Anc ops k m ∨ St (E m) S)
    (hw : ∀ us, Region.wanted o (yielded ops (A us).tmps) = true) (hr : ∀ us w, R w0 w → Hyp us w k o F → Gv P (E k) w S ((execOp (A us).eval o).run P w))
    (hA : ∀ us, (A us).put o.dst (us k) = A' us) (hk : wpG P ops E R w0 Q l (k + 1) A' ((k, fun us w => S (us k) w, none) :: F)) : wpG P ops E R w0 Q (o :: l) k A F :=
  ⟨.sat S, ⟨hS, hw, fun us w h1 h2 => gu_of_gv (hr us w h1 h2)⟩, (funext hA : Aput A o k (.sat S) = A') ▸ hk⟩
theorem wpG_lin {o : Oper} {l : List Oper} {k : Nat} {A A' : (Nat → Value) → Act} {F : List (Nat × ((Nat → Value) → World → Prop) × Option Nat)} (S : Value → World → Prop) (n : Nat) (h1 : depOf ops n k = true) (hS : ∀ m, m ≠ k → m ≠ n → Anc ops k m ∨ Anc ops m n ∨ St (E m) S)
    (hw : ∀ us, Region.wanted o (yielded ops (A us).tmps) = true) (hr : ∀ us w, R w0 w → Hyp us w k o F → Gv P (E k) w S ((execOp (A us).eval o).run P w))
    (hA : ∀ us, (A us).put o.dst (us k) = A' us) (hk : wpG P ops E R w0 Q l (k + 1) A' ((k, fun us w => S (us k) w, some n) :: F)) : wpG P ops E R w0 Q (o :: l) k A F :=
  ⟨.lin S n, ⟨h1, hS, hw, fun us w h1 h2 => gu_of_gv (hr us w h1 h2)⟩, (funext hA : Aput A o k (.lin S n) = A') ▸ hk⟩
/-- What is told of it and of what operation j0, for which it waits, has yielded. -/
theorem wpG_two {o : Oper} {l : List Oper} {k : Nat} {A A' : (Nat → Value) → Act} {F : List (Nat × ((Nat → Value) → World → Prop) × Option Nat)} (j0 : Nat) (S : Value → Value → World → Prop) (hd : dep o j0 = true) (hS : ∀ m, m ≠ k → Anc ops k m ∨ ∀ u0, St (E m) (S u0))
    (hw : ∀ us, Region.wanted o (yielded ops (A us).tmps) = true) (hr : ∀ us w, R w0 w → Hyp us w k o F → Gv P (E k) w (S (us j0)) ((execOp (A us).eval o).run P w))
    (hA : ∀ us, (A us).put o.dst (us k) = A' us) (hk : wpG P ops E R w0 Q l (k + 1) A' ((k, fun us w => S (us j0) (us k) w, none) :: F)) : wpG P ops E R w0 Q (o :: l) k A F :=
  ⟨.two j0 S, ⟨hd, hS, hw, fun us w h1 h2 => gu_of_gv (hr us w h1 h2)⟩, (funext hA : Aput A o k (.two j0 S) = A') ▸ hk⟩
/-- Where every operation lets memory grow alone. -/
theorem wpG_sat {o : Oper} {l : List Oper} {k : Nat} {A A' : (Nat → Value) → Act} {F : List (Nat × ((Nat → Value) → World → Prop) × Option Nat)} (S : Value → World → Prop) (hS : St Gr S)
    (hw : ∀ us, Region.wanted o (yielded ops (A us).tmps) = true) (hr : ∀ us w, R w0 w → Hyp us w k o F → Gv P Gr w S ((execOp (A us).eval o).run P w))
    (hA : ∀ us, (A us).put o.dst (us k) = A' us) (hk : wpG P ops (fun _ => Gr) R w0 Q l (k + 1) A' ((k, fun us w => S (us k) w, none) :: F)) : wpG P ops (fun _ => Gr) R w0 Q (o :: l) k A F :=
  wpG_sat' (E := fun _ => Gr) S (fun _ _ => .inr hS) hw hr hA hk

theorem wp_region_gr' {id : Nat} {a : Act} {w : World} {l : List Oper} (hm : P.follows .mixedOrders = true) (hR : okR l.toArray = true)
    (h : ∀ ops : Array Oper, Hid (ops = l.toArray) → wpG P ops (fun _ => Gr) Gr w Q l 0 (fun _ => a) []) : (Code.region id l.toArray true).wp P Q a w :=
  wp_region_gr hm hR (h _ rfl)
/-- .. and where the operation at place c may write, too, as Ec says. -/
theorem wp_region_one {id : Nat} {a : Act} {w : World} {l : List Oper} (hm : P.follows .mixedOrders = true) (hR : okR l.toArray = true) (c : Nat) (Ec R : World → World → Prop) (hE : ∀ a, Ec a a)
    (hg : ∀ a b c, R a b → Gr b c → R a c) (he : ∀ a b c, R a b → Ec b c → R a c) (hd : R w w.drew)
    (h : ∀ ops : Array Oper, Hid (ops = l.toArray) → wpG P ops (fun k => if k = c then Ec else Gr) R w Q l 0 (fun _ => a) []) : (Code.region id l.toArray true).wp P Q a w := by
  refine wp_region_grow (E := fun k => if k = c then Ec else Gr) (R := R) hm hR (fun k a => ?_) (fun k a b d h1 h2 => ?_) hd (by simpa using h _ rfl)
  · show (if k = c then Ec else Gr) a a
    split
    · exact hE a
    · exact Gr.refl a
  · revert h2
    show (if k = c then Ec else Gr) b d → _
    split
    · exact he a b d h1
    · exact hg a b d h1

def ancB (ops : Array Oper) : Nat → Nat → Nat → Bool
  | 0, _, _ => false
  | f + 1, j, m => match ops[j]? with
    | some o => dep o m || o.after.toList.any fun e => Region.binds .any e && ancB ops f e.on m
    | none => false
theorem anc_of : ∀ (f j m : Nat), ancB ops f j m = true → Anc ops j m
  | 0, _, _, h => by simp [ancB] at h
  | f + 1, j, m, h => by
    unfold ancB at h
    cases ho : ops[j]? with
    | none => rw [ho] at h; simp at h
    | some o =>
      rw [ho] at h
      simp only [Bool.or_eq_true] at h
      rcases h with h | h
      · exact .one ho h
      · obtain ⟨e, he, hb⟩ := List.any_eq_true.1 h
        simp only [Bool.and_eq_true] at hb
        refine .more (m := e.on) ho ?_ (anc_of f e.on m hb.2)
        unfold dep
        exact List.any_eq_true.2 ⟨e, he, by simp [hb.1]⟩

/-- Memory from B0 on may be written. -/
def Ow (B0 : Nat) (a b : World) : Prop := B0 ≤ a.heap.size → Below B0 a b
/-- Two operations write what the region has made; the others let memory grow. -/
def Etwo (B0 c d : Nat) (k : Nat) : World → World → Prop := if k = c ∨ k = d then Ow B0 else Gr
theorem gr_E {B0 c d k : Nat} {a b : World} (h : Gr a b) : Etwo B0 c d k a b := by
  unfold Etwo
  split
  · intro hB
    exact h.mono hB
  · exact h
theorem ow_E {B0 c d k : Nat} {a b : World} (hk : k = c ∨ k = d) (h : Below B0 a b) : Etwo B0 c d k a b := by
  unfold Etwo
  rw [if_pos hk]
  exact fun _ => h
theorem sat_two {B0 c d k : Nat} {S : Value → World → Prop} (hS : St Gr S) (hc : Anc ops k c) (hd : Anc ops k d) : ∀ m, m ≠ k → Anc ops k m ∨ St (Etwo B0 c d m) S := by
  intro m _
  by_cases h1 : m = c
  · exact .inl (h1 ▸ hc)
  · by_cases h2 : m = d
    · exact .inl (h2 ▸ hd)
    · refine .inr ?_
      unfold Etwo
      rw [if_neg (by rintro (h | h); exact h1 h; exact h2 h)]
      exact hS
theorem wp_region_two {id : Nat} {a : Act} {w : World} {l : List Oper} (hm : P.follows .mixedOrders = true) (hR : okR l.toArray = true) (c d : Nat)
    (h : ∀ ops : Array Oper, Hid (ops = l.toArray) → wpG P ops (Etwo w.heap.size c d) (fun a b => w.heap.size ≤ b.heap.size ∧ Below w.heap.size a b) w Q l 0 (fun _ => a) []) : (Code.region id l.toArray true).wp P Q a w := by
  refine wp_region_grow (E := Etwo w.heap.size c d) (R := fun a b => w.heap.size ≤ b.heap.size ∧ Below w.heap.size a b) hm hR (fun k a => gr_E (Gr.refl a)) (fun k a b e h1 h2 => ?_) ⟨Nat.le_refl _, Below.drew (Below.refl _ _)⟩ (by simpa using h _ rfl)
  have h3 : Below w.heap.size b e := by
    unfold Etwo at h2
    split at h2
    · exact h2 h1.1
    · exact Below.mono h2 h1.1
  exact ⟨Nat.le_trans h1.1 h3.size, h1.2.trans h3⟩
end
end Go.Proofs.Ytonllhjmoenckaa
