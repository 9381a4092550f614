/- Parts of the proofs, joined: Grow, Bits, Words, Same, Vint, Len, VintW, VintZ, VintR, ClkD, MapC, CrcF, CrcP, CrcW. -/
import Derived.Orders
import Derived.Below
import Derived.WalkKit
import Derived.Laws.BitsAllLaws
import Derived.Laws.BitsLemmas
import Derived.WalkSpells
import Derived.Laws.OwnMore
import Derived.Deep.AppendLies
import Derived.Deep.Draws
import Derived.Maps.AppendAt
import Derived.Lib.Hide
import Derived.Test.YtgfnpcmehnjopaaGreatDoorProg
import Derived.KernelRfl
import Derived.LoopTactic
import Derived.Deep.LoopGhost
import Derived.Deep.QuietTactic
import Derived.BigQuiet
import Derived.Outline
import Derived.Shelf.Strconv.Itoa0
import Derived.Laws.Externs
import Derived.MapKept
import Derived.Maps.Own
section
namespace Go.Proofs.YtgfnpcmehnjopaaGreatDoor
open Go Go.RowKit
set_option linter.unusedVariables false
set_option linter.unusedSimpArgs false
section
variable {P : Program} {ops : Array Oper} {E : Nat → World → World → Prop} {R D : World → World → Prop} {w0 : World} {Q : Exit → Act → World → Prop}
def Gu (P : Program) (E : World → World → Prop) (w : World) (S : Value → World → Prop) : Result Next → Prop
  | .ok (.value u) w' => E w w' ∧ S u w'
  | .ok .skip w' => E w w' ∧ S undef w'
  | .ok (.enter f args) w' => Calls P f args w' fun e w'' => ∃ u, e = .returned u ∧ E w w'' ∧ S u w''
  | _ => False
def St (E : World → World → Prop) (S : Value → World → Prop) : Prop := ∀ u w w', S u w → E w w' → S u w'
inductive Kn where
  | off
  | det (v : Value)
  | sat (S : Value → World → Prop)
  | lin (S : Value → World → Prop) (m : Nat)
  | two (j0 : Nat) (S : Value → Value → World → Prop)
def Kn.val : Kn → Value → Value
  | .off, _ => undef
  | .det v, _ => v
  | .sat _, u => u
  | .lin _ _, u => u
  | .two _ _, u => u
def Kn.fact : Kn → (Nat → Value) → Nat → World → Prop
  | .sat S, us, k, w => S (us k) w
  | .lin S _, us, k, w => S (us k) w
  | .two j0 S, us, k, w => S (us j0) (us k) w
  | _, _, _, _ => True
def Kn.live (listed : Array Bool) : Kn → Prop
  | .lin _ m => listed.getD m false = false
  | _ => True
def dep (o : Oper) (j : Nat) : Bool := o.after.toList.any fun e => Region.binds .any e && e.on == j
inductive Anc (ops : Array Oper) : Nat → Nat → Prop where
  | one {j k : Nat} {o : Oper} : ops[j]? = some o → dep o k = true → Anc ops j k
  | more {j m k : Nat} {o : Oper} : ops[j]? = some o → dep o m = true → Anc ops m k → Anc ops j k
def Hyp (us : Nat → Value) (w : World) (kc : Nat) (o : Oper) : List (Nat × ((Nat → Value) → World → Prop) × Option Nat) → Prop
  | [] => True
  | (j, S, none) :: r => (dep o j = true → S us w) ∧ Hyp us w kc o r
  | (j, S, some n) :: r => (kc = n → S us w) ∧ Hyp us w kc o r
def Alls (us : Nat → Value) (w : World) : List (Nat × ((Nat → Value) → World → Prop) × Option Nat) → Prop
  | [] => True
  | (j, S, none) :: r => (true = true → S us w) ∧ Alls us w r
  | (j, S, some _) :: r => (False → S us w) ∧ Alls us w r
def onlyDep (ops : Array Oper) (j m : Nat) : Bool := (List.range ops.size).all fun k => k == m || match ops[k]? with
  | some o => !dep o j
  | none => true
def depOf (ops : Array Oper) (n k : Nat) : Bool := match ops[n]? with
  | some o => dep o k
  | none => false
def ObOf (P : Program) (ops : Array Oper) (E : Nat → World → World → Prop) (R : World → World → Prop) (w0 : World) (k : Nat) (o : Oper) (A : (Nat → Value) → Act) (F : List (Nat × ((Nat → Value) → World → Prop) × Option Nat)) : Kn → Prop
  | .off => ∀ us, Region.wanted o (yielded ops (A us).tmps) = false
  | .det v => (∀ us, Region.wanted o (yielded ops (A us).tmps) = true) ∧ ∀ us w, R w0 w → Hyp us w k o F → Gu P (E k) w (fun u _ => u = v) ((execOp (A us).eval o).run P w)
  | .sat S => (∀ m, m ≠ k → Anc ops k m ∨ St (E m) S) ∧ (∀ us, Region.wanted o (yielded ops (A us).tmps) = true) ∧ ∀ us w, R w0 w → Hyp us w k o F → Gu P (E k) w S ((execOp (A us).eval o).run P w)
  | .lin S n => depOf ops n k = true ∧ (∀ m, m ≠ k → m ≠ n → Anc ops k m ∨ Anc ops m n ∨ St (E m) S) ∧ (∀ us, Region.wanted o (yielded ops (A us).tmps) = true) ∧ ∀ us w, R w0 w → Hyp us w k o F → Gu P (E k) w S ((execOp (A us).eval o).run P w)
  | .two j0 S => dep o j0 = true ∧ (∀ m, m ≠ k → Anc ops k m ∨ ∀ u0, St (E m) (S u0)) ∧ (∀ us, Region.wanted o (yielded ops (A us).tmps) = true) ∧ ∀ us w, R w0 w → Hyp us w k o F → Gu P (E k) w (S (us j0)) ((execOp (A us).eval o).run P w)
def Aput (A : (Nat → Value) → Act) (o : Oper) (k : Nat) (κ : Kn) : (Nat → Value) → Act := fun us => (A us).put o.dst (κ.val (us k))
def Fput (F : List (Nat × ((Nat → Value) → World → Prop) × Option Nat)) (k : Nat) : Kn → List (Nat × ((Nat → Value) → World → Prop) × Option Nat)
  | .sat S => (k, fun us w => S (us k) w, none) :: F
  | .lin S n => (k, fun us w => S (us k) w, some n) :: F
  | .two j0 S => (k, fun us w => S (us j0) (us k) w, none) :: F
  | _ => F
def wpG (P : Program) (ops : Array Oper) (E : Nat → World → World → Prop) (R : World → World → Prop) (w0 : World) (Q : Exit → Act → World → Prop) : List Oper → Nat → ((Nat → Value) → Act) → List (Nat × ((Nat → Value) → World → Prop) × Option Nat) → Prop
  | [], _, A, F => ∀ us w, R w0 w → Alls us w F → Q .normal (A us) w
  | o :: l, k, A, F => ∃ κ, ObOf P ops E R w0 k o A F κ ∧ wpG P ops E R w0 Q l (k + 1) (Aput A o k κ) (Fput F k κ)
def okR (ops : Array Oper) : Bool :=
  Region.noSelect ops && (List.range ops.size).all fun k => match ops[k]? with
    | none => false
    | some ok => ok.after.all (fun e => !Region.binds .any e || decide (e.on < k)) && (List.range ops.size).all fun j => j == k || match ops[j]? with
      | none => false
      | some oj => match oj.dst with
        | none => true
        | some d => ok.dst != some d && (!(ok.looksAt ops).contains d || (if j < k then dep ok j else dep oj k))
def An (ops : Array Oper) (A0 : Act) (Ks : List Kn) : Nat → (Nat → Value) → Act
  | 0 => fun _ => A0
  | i + 1 => match ops[i]?, Ks[i]? with
    | some o, some κ => Aput (An ops A0 Ks i) o i κ
    | _, _ => An ops A0 Ks i
def Fn (Ks : List Kn) : Nat → List (Nat × ((Nat → Value) → World → Prop) × Option Nat)
  | 0 => []
  | i + 1 => match Ks[i]? with
    | some κ => Fput (Fn Ks i) i κ
    | none => Fn Ks i
theorem An_app (A0 : Act) (Kp t : List Kn) : ∀ i, i ≤ Kp.length → An ops A0 (Kp ++ t) i = An ops A0 Kp i
  | 0, _ => rfl
  | i + 1, h => by
    have hi : (Kp ++ t)[i]? = Kp[i]? := List.getElem?_append_left (by omega)
    simp only [An, hi, An_app A0 Kp t i (by omega)]
theorem Fn_app (Kp t : List Kn) : ∀ i, i ≤ Kp.length → Fn (Kp ++ t) i = Fn Kp i
  | 0, _ => rfl
  | i + 1, h => by
    have hi : (Kp ++ t)[i]? = Kp[i]? := List.getElem?_append_left (by omega)
    simp only [Fn, hi, Fn_app Kp t i (by omega)]
theorem wpG_extract (A0 : Act) : ∀ (l : List Oper) (k : Nat) (Kp : List Kn), Kp.length = k → (∀ j, l[j]? = ops[k + j]?) → wpG P ops E R w0 Q l k (An ops A0 Kp k) (Fn Kp k) →
    ∃ t : List Kn, t.length = l.length ∧ (∀ i o κ, k ≤ i → ops[i]? = some o → (Kp ++ t)[i]? = some κ → ObOf P ops E R w0 i o (An ops A0 (Kp ++ t) i) (Fn (Kp ++ t) i) κ) ∧
      ∀ us w, R w0 w → Alls us w (Fn (Kp ++ t) (k + l.length)) → Q .normal (An ops A0 (Kp ++ t) (k + l.length) us) w
  | [], k, Kp, hk, hl, h => by
    refine ⟨[], rfl, fun i o κ hi ho hκ => ?_, ?_⟩
    · rw [List.append_nil, List.getElem?_eq_none (by omega)] at hκ; cases hκ
    · simp only [List.append_nil, List.length_nil, Nat.add_zero]; exact h
  | o :: l, k, Kp, hk, hl, h => by
    obtain ⟨κ, ho, h⟩ := h
    have h0 : ops[k]? = some o := by simpa using (hl 0).symm
    have hKk : (Kp ++ [κ])[k]? = some κ := by rw [List.getElem?_append_right (by omega), hk]; simp
    have hA : An ops A0 (Kp ++ [κ]) (k + 1) = Aput (An ops A0 Kp k) o k κ := by
      simp only [An, h0, hKk, An_app A0 Kp [κ] k (by omega)]
    have hF : Fn (Kp ++ [κ]) (k + 1) = Fput (Fn Kp k) k κ := by
      simp only [Fn, hKk, Fn_app Kp [κ] k (by omega)]
    obtain ⟨t, ht, h1, h2⟩ := wpG_extract A0 l (k + 1) (Kp ++ [κ]) (by simp [hk]) (fun j => by have := hl (j + 1); simpa [Nat.add_assoc, Nat.add_comm 1 j] using this) (by rw [hA, hF]; exact h)
    refine ⟨κ :: t, by simp [ht], fun i o' κ' hi ho' hκ' => ?_, ?_⟩
    · have e : Kp ++ κ :: t = (Kp ++ [κ]) ++ t := by simp
      rw [e] at hκ' ⊢
      by_cases hik : i = k
      · subst hik
        rw [h0] at ho'; cases ho'
        rw [List.getElem?_append_left (by simp [hk]), hKk] at hκ'; cases hκ'
        rw [An_app A0 (Kp ++ [κ]) t i (by simp [hk]), Fn_app (Kp ++ [κ]) t i (by simp [hk]), An_app A0 Kp [κ] i (by omega), Fn_app Kp [κ] i (by omega)]
        exact ho
      · exact h1 i o' κ' (by omega) ho' hκ'
    · have e : Kp ++ κ :: t = (Kp ++ [κ]) ++ t := by simp
      have e2 : k + (o :: l).length = k + 1 + l.length := by simp; omega
      rw [e, e2]
      exact h2
theorem put_slot (a : Act) (d t : Nat) (v : Value) : (a.put (some d) v).tmps[t]? = if d = t then (a.tmps[t]?).map (fun _ => v) else a.tmps[t]? := by
  simp only [Act.put]
  rw [Array.getElem?_setIfInBounds]
  by_cases h : d = t
  · subst h
    by_cases h2 : d < a.tmps.size
    · simp [h2]
    · simp [h2]
  · simp [h]
theorem put_defers_ (a : Act) (d : Option Tmp) (v : Value) : (a.put d v).defers = a.defers := by cases d <;> rfl
structure Okay (ops : Array Oper) : Prop where
  sel : Region.noSelect ops = true
  back : ∀ (k : Nat) (ok : Oper), ops[k]? = some ok → ∀ e ∈ ok.after, Region.binds .any e = true → e.on < k
  once : ∀ (k j : Nat) (ok oj : Oper) (d : Tmp), ops[k]? = some ok → ops[j]? = some oj → j ≠ k → oj.dst = some d → ok.dst ≠ some d
  look : ∀ (k j : Nat) (ok oj : Oper) (d : Tmp), ops[k]? = some ok → ops[j]? = some oj → j ≠ k → oj.dst = some d → d ∈ ok.looksAt ops → (j < k → dep ok j = true) ∧ (k < j → dep oj k = true)
theorem okR_spec (h : okR ops = true) : Okay ops := by
  unfold okR at h
  rw [Bool.and_eq_true, List.all_eq_true] at h
  obtain ⟨h1, h2⟩ := h
  have key : ∀ k ok, ops[k]? = some ok → (ok.after.all (fun e => !Region.binds .any e || decide (e.on < k)) = true) ∧
      ∀ j oj, ops[j]? = some oj → j ≠ k → ∀ d, oj.dst = some d → ok.dst ≠ some d ∧ (d ∈ ok.looksAt ops → (if j < k then dep ok j else dep oj k) = true) := by
    intro k ok hk
    have hlt : k < ops.size := (Array.getElem?_eq_some_iff.1 hk).1
    have := h2 k (List.mem_range.2 hlt)
    simp only [hk, Bool.and_eq_true, List.all_eq_true] at this
    refine ⟨this.1, fun j oj hj hne d hd => ?_⟩
    have hjl : j < ops.size := (Array.getElem?_eq_some_iff.1 hj).1
    have h3 := this.2 j (List.mem_range.2 hjl)
    simp only [hj, hd, Bool.or_eq_true, beq_iff_eq, hne, false_or, Bool.and_eq_true, bne_iff_ne, ne_eq, Bool.not_eq_true', List.contains_eq_mem, decide_eq_false_iff_not] at h3
    exact ⟨h3.1, fun hm => h3.2.resolve_left (fun hn => hn hm)⟩
  refine ⟨h1, fun k ok hk e he hb => ?_, fun k j ok oj d hk hj hne hd => ((key k ok hk).2 j oj hj hne d hd).1, fun k j ok oj d hk hj hne hd hm => ?_⟩
  · have := Array.all_eq_true_iff_forall_mem.1 (key k ok hk).1 e he
    simpa [hb] using this
  · have := ((key k ok hk).2 j oj hj hne d hd).2 hm
    constructor
    · intro hlt; rwa [if_pos hlt] at this
    · intro hlt; rwa [if_neg (by omega)] at this
theorem An_step (A0 : Act) (Ks : List Kn) (us : Nat → Value) (i : Nat) :
    (∃ o κ, ops[i]? = some o ∧ Ks[i]? = some κ ∧ An ops A0 Ks (i + 1) us = (An ops A0 Ks i us).put o.dst (κ.val (us i))) ∨ An ops A0 Ks (i + 1) us = An ops A0 Ks i us := by
  cases ho : ops[i]? with
  | none => exact .inr (by simp only [An, ho])
  | some o =>
    cases hκ : Ks[i]? with
    | none => exact .inr (by simp only [An, ho, hκ])
    | some κ => exact .inl ⟨o, κ, rfl, rfl, by simp only [An, ho, hκ, Aput]⟩
theorem An_slot_not (A0 : Act) (Ks : List Kn) (us : Nat → Value) (t : Nat) : ∀ i, (∀ j o, j < i → ops[j]? = some o → o.dst ≠ some t) → (An ops A0 Ks i us).tmps[t]? = A0.tmps[t]?
  | 0, _ => rfl
  | i + 1, h => by
    have ih := An_slot_not A0 Ks us t i fun j o hj => h j o (by omega)
    rcases An_step (ops := ops) A0 Ks us i with ⟨o, κ, ho, hκ, e⟩ | e <;> rw [e]
    · cases hd : o.dst with
      | none => exact ih
      | some d =>
        have hne : d ≠ t := fun e => h i o (by omega) ho (by rw [hd, e])
        rw [put_slot, if_neg hne, ih]
    · exact ih
theorem An_slot_at (hok : Okay ops) (A0 : Act) (Ks : List Kn) (us : Nat → Value) (t j : Nat) (o : Oper) (κ : Kn) (ho : ops[j]? = some o) (hκ : Ks[j]? = some κ) (hd : o.dst = some t) : ∀ i, j < i →
    (An ops A0 Ks i us).tmps[t]? = (A0.tmps[t]?).map fun _ => κ.val (us j)
  | 0, h => absurd h (by omega)
  | i + 1, h => by
    by_cases hji : j = i
    · subst hji
      have h0 := An_slot_not (ops := ops) A0 Ks us t j fun j' o' hj' ho' => hok.once j' j o' o t ho' ho (by omega) hd
      simp only [An, ho, hκ, Aput, hd]
      rw [put_slot, if_pos rfl, h0]
    · have ih := An_slot_at hok A0 Ks us t j o κ ho hκ hd i (by omega)
      rcases An_step (ops := ops) A0 Ks us i with ⟨o', κ', ho', hκ', e⟩ | e <;> rw [e]
      · cases hd' : o'.dst with
        | none => exact ih
        | some d =>
          have hne : d ≠ t := fun e => hok.once i j o' o t ho' ho (by omega) hd (by rw [hd', e])
          rw [put_slot, if_neg hne, ih]
      · exact ih
theorem An_defers (A0 : Act) (Ks : List Kn) (us : Nat → Value) : ∀ i, (An ops A0 Ks i us).defers = A0.defers
  | 0 => rfl
  | i + 1 => by
    rcases An_step (ops := ops) A0 Ks us i with ⟨o, κ, ho, hκ, e⟩ | e <;> rw [e]
    · rw [put_defers_]; exact An_defers A0 Ks us i
    · exact An_defers A0 Ks us i
theorem eval_slot {a b : Act} {x : Operand} (h : ∀ t, x = .tmp t → a.tmps[t]? = b.tmps[t]?) : a.eval x = b.eval x := by
  cases x with
  | tmp t =>
    have := h t rfl
    simp only [Act.eval, Array.getD_eq_getD_getElem?, this]
  | _ => rfl
theorem wanted_slot {a b : Act} {o : Oper} (h : ∀ t, t ∈ o.looksAt ops → a.tmps[t]? = b.tmps[t]?) : Region.wanted o (yielded ops a.tmps) = Region.wanted o (yielded ops b.tmps) := by
  unfold Region.wanted
  cases hg : o.guard with
  | none => rfl
  | some gw =>
    obtain ⟨g, want⟩ := gw
    have hy : yielded ops a.tmps g = yielded ops b.tmps g := by
      unfold yielded
      cases ht : (ops[g]?).bind (·.dst) with
      | none => rfl
      | some t =>
        have := h t (by simp [Oper.looksAt, hg, ht])
        simp [this]
    simp only [hy]
theorem exec_slot {a b : Act} {o : Oper} (hs : ∀ cs b, o.op ≠ .select cs b) (h : ∀ t, t ∈ o.looksAt ops → a.tmps[t]? = b.tmps[t]?) : execOp a.eval o = execOp b.eval o :=
  execOp_congr o hs fun x hx => eval_slot fun t ht => h t (by
    subst ht
    exact List.mem_append_left _ (List.mem_filterMap.2 ⟨.tmp t, by simpa using hx, rfl⟩))
theorem hyp_of {us : Nat → Value} {w : World} {kc : Nat} {o : Oper} {Ks : List Kn} : ∀ i, (∀ j κ, j < i → Ks[j]? = some κ → (∀ S n, κ = .lin S n → kc = n) → ((∀ S n, κ ≠ .lin S n) → dep o j = true) → κ.fact us j w) → Hyp us w kc o (Fn Ks i)
  | 0, _ => trivial
  | i + 1, h => by
    have ih := hyp_of (Ks := Ks) (us := us) (w := w) (kc := kc) (o := o) i fun j κ hj => h j κ (by omega)
    unfold Fn
    split
    · rename_i κ hκ
      cases κ with
      | off => exact ih
      | det v => exact ih
      | sat S => exact ⟨fun hd => h i _ (by omega) hκ (fun _ _ e => by cases e) (fun _ => hd), ih⟩
      | lin S n => exact ⟨fun hn => h i _ (by omega) hκ (fun _ _ e => by cases e; exact hn) (fun h => absurd rfl (h _ _)), ih⟩
      | two j0 S => exact ⟨fun hd => h i _ (by omega) hκ (fun _ _ e => by cases e) (fun _ => hd), ih⟩
    · exact ih
theorem alls_of {us : Nat → Value} {w : World} {Ks : List Kn} : ∀ i, (∀ (j : Nat) (κ : Kn), j < i → Ks[j]? = some κ → (∀ S n, κ ≠ .lin S n) → κ.fact us j w) → Alls us w (Fn Ks i)
  | 0, _ => trivial
  | i + 1, h => by
    have ih := alls_of (Ks := Ks) (us := us) (w := w) i fun j S hj => h j S (by omega)
    unfold Fn
    split
    · rename_i κ hκ
      cases κ with
      | off => exact ih
      | det v => exact ih
      | sat S => exact ⟨fun _ => h i _ (by omega) hκ (fun _ _ e => by cases e), ih⟩
      | lin S n => exact ⟨fun e => e.elim, ih⟩
      | two j0 S => exact ⟨fun _ => h i _ (by omega) hκ (fun _ _ e => by cases e), ih⟩
    · exact ih
structure Mid (ops : Array Oper) (R : World → World → Prop) (w0 : World) (A0 : Act) (Ks : List Kn) (us : Nat → Value) (listed : Array Bool) (a : Act) (w : World) : Prop where
  size : listed.size = ops.size
  grown : R w0 w
  defers : a.defers = A0.defers
  shut : ∀ j o, ops[j]? = some o → listed.getD j false = true → ∀ e ∈ o.after, Region.binds .any e = true → listed.getD e.on false = true
  rest : ∀ t, (∀ j o, ops[j]? = some o → o.dst = some t → listed.getD j false = false) → a.tmps[t]? = A0.tmps[t]?
  done : ∀ j o κ t, ops[j]? = some o → Ks[j]? = some κ → listed.getD j false = true → o.dst = some t → a.tmps[t]? = (A0.tmps[t]?).map fun _ => κ.val (us j)
  fact : ∀ (j : Nat) (κ : Kn), Ks[j]? = some κ → listed.getD j false = true → κ.live listed → κ.fact us j w
theorem dep_on {o : Oper} {j : Nat} (h : dep o j = true) : ∃ e ∈ o.after, Region.binds .any e = true ∧ e.on = j := by
  unfold dep at h
  obtain ⟨e, he, hb⟩ := List.any_eq_true.1 h
  simp only [Bool.and_eq_true, beq_iff_eq] at hb
  exact ⟨e, Array.mem_toList_iff.1 he, hb.1, hb.2⟩
theorem Mid.slots (hok : Okay ops) {A0 : Act} {Ks : List Kn} (hKs : Ks.length = ops.size) {us : Nat → Value} {listed : Array Bool} {a : Act} {w : World} (h : Mid ops R w0 A0 Ks us listed a w)
    {k : Nat} {o : Oper} (ho : ops[k]? = some o) (hun : listed.getD k false = false) (hr : ∀ e ∈ o.after, Region.binds .any e = true → listed.getD e.on false = true) :
    ∀ t, t ∈ o.looksAt ops → a.tmps[t]? = (An ops A0 Ks k us).tmps[t]? := by
  intro t ht
  by_cases hw : ∃ (j : Nat) (oj : Oper), ops[j]? = some oj ∧ oj.dst = some t
  · obtain ⟨j, oj, hj, hd⟩ := hw
    have hKj : Ks[j]? = some (Ks[j]'(by rw [hKs]; exact (Array.getElem?_eq_some_iff.1 hj).1)) := List.getElem?_eq_getElem _
    have only : ∀ j' o', ops[j']? = some o' → o'.dst = some t → j' = j := fun j' o' hj' hd' => Classical.byContradiction fun hne => hok.once j' j o' oj t hj' hj (fun e => hne e.symm) hd hd'
    rcases Nat.lt_trichotomy j k with hlt | heq | hgt
    · obtain ⟨e, he, hb, hon⟩ := dep_on ((hok.look k j o oj t ho hj (by omega) hd ht).1 hlt)
      have hl := hr e he hb
      rw [hon] at hl
      rw [h.done j oj _ t hj hKj hl hd, An_slot_at hok A0 Ks us t j oj _ hj hKj hd k hlt]
    · subst heq
      rw [h.rest t fun j' o' hj' hd' => by rw [only j' o' hj' hd']; exact hun, An_slot_not A0 Ks us t j fun j' o' hlt hj' hd' => by have := only j' o' hj' hd'; omega]
    · have hnl : listed.getD j false = false := by
        cases hl : listed.getD j false with
        | false => rfl
        | true =>
          obtain ⟨e, he, hb, hon⟩ := dep_on ((hok.look k j o oj t ho hj (by omega) hd ht).2 hgt)
          have := h.shut j oj hj hl e he hb
          rw [hon, hun] at this; cases this
      rw [h.rest t fun j' o' hj' hd' => by rw [only j' o' hj' hd']; exact hnl, An_slot_not A0 Ks us t k fun j' o' hlt hj' hd' => by have := only j' o' hj' hd'; omega]
  · rw [h.rest t fun j' o' hj' hd' => absurd ⟨j', o', hj', hd'⟩ hw, An_slot_not A0 Ks us t k fun j' o' hlt hj' hd' => absurd ⟨j', o', hj', hd'⟩ hw]
theorem anc_listed {listed : Array Bool} (hs : ∀ j o, ops[j]? = some o → listed.getD j false = true → ∀ e ∈ o.after, Region.binds .any e = true → listed.getD e.on false = true) {j k : Nat} (h : Anc ops j k)
    (hl : listed.getD j false = true) : listed.getD k false = true := by
  induction h with
  | one ho hd =>
    obtain ⟨e, he, hb, hon⟩ := dep_on hd
    rw [← hon]; exact hs _ _ ho hl e he hb
  | more ho hd _ ih =>
    obtain ⟨e, he, hb, hon⟩ := dep_on hd
    refine ih ?_
    rw [← hon]; exact hs _ _ ho hl e he hb
theorem getD_set_same {listed : Array Bool} {k : Nat} (h : k < listed.size) : (listed.setIfInBounds k true).getD k false = true := by
  simp [h]
theorem Mid.step (hok : Okay ops) (htr : ∀ k a b c, R a b → E k b c → R a c) {A0 : Act} {Ks : List Kn} (hKs : Ks.length = ops.size) (hst : ∀ (j : Nat) (κ : Kn), Ks[j]? = some κ → ∀ m, m ≠ j → (∀ S, κ ≠ .lin S m) → Anc ops j m ∨ (∃ S n, κ = .lin S n ∧ Anc ops m n) ∨ (∀ us w w', κ.fact us j w → E m w w' → κ.fact us j w'))
    {us us' : Nat → Value} {listed : Array Bool} {a : Act} {w w' : World} (h : Mid ops R w0 A0 Ks us listed a w)
    {k : Nat} {o : Oper} {κ : Kn} (ho : ops[k]? = some o) (hκ : Ks[k]? = some κ) (hun : listed.getD k false = false) (hr : ∀ e ∈ o.after, Region.binds .any e = true → listed.getD e.on false = true)
    (htwo : ∀ (j j0 : Nat) (S : Value → Value → World → Prop) (oj : Oper), Ks[j]? = some (.two j0 S) → ops[j]? = some oj → dep oj j0 = true) (hus : ∀ j, j ≠ k → us' j = us j) (hE : E k w w') (hf : κ.fact us' k w') : Mid ops R w0 A0 Ks us' (listed.setIfInBounds k true) (a.put o.dst (κ.val (us' k))) w' := by
  have hlt : k < listed.size := by rw [h.size]; exact (Array.getElem?_eq_some_iff.1 ho).1
  have hne : ∀ j, j ≠ k → (listed.setIfInBounds k true).getD j false = listed.getD j false := fun j hj => getD_set_ne false (Ne.symm hj)
  have hmono : ∀ j, listed.getD j false = true → (listed.setIfInBounds k true).getD j false = true := fun j hj => by
    by_cases e : j = k
    · rw [e]; exact getD_set_same hlt
    · rw [hne j e]; exact hj
  refine ⟨by simp [h.size], htr k _ _ _ h.grown hE, by rw [put_defers_, h.defers], ?_, ?_, ?_, ?_⟩
  · intro j oj hj hl e he hb
    by_cases e2 : j = k
    · subst e2
      rw [ho] at hj; cases hj
      exact hmono _ (hr e he hb)
    · rw [hne j e2] at hl
      exact hmono _ (h.shut j oj hj hl e he hb)
  · intro t ht
    have hkt : o.dst ≠ some t := fun e => by have := ht k o ho e; rw [getD_set_same hlt] at this; cases this
    have hold : a.tmps[t]? = A0.tmps[t]? := h.rest t fun j oj hj hd => by
      have h1 := ht j oj hj hd
      by_cases e2 : j = k
      · subst e2; rw [getD_set_same hlt] at h1; cases h1
      · rwa [hne j e2] at h1
    cases hd : o.dst with
    | none => exact hold
    | some d => rw [put_slot, if_neg (fun e => hkt (by rw [hd, e])), hold]
  · intro j oj κ' t hj hκ' hl hd
    by_cases e2 : j = k
    · subst e2
      rw [ho] at hj; cases hj
      rw [hκ] at hκ'; cases hκ'
      rw [hd, put_slot, if_pos rfl, h.rest t fun j' o' hj' hd' => by
        by_cases e3 : j' = j
        · rw [e3]; exact hun
        · exact absurd hd' (hok.once j' j o' o t hj' ho (fun e => e3 e.symm) hd)]
    · rw [hne j e2] at hl
      have := h.done j oj κ' t hj hκ' hl hd
      rw [hus j e2]
      cases hd' : o.dst with
      | none => exact this
      | some d => rw [put_slot, if_neg (fun e => hok.once k j o oj t ho hj e2 hd (by rw [hd', e])), this]
  · intro j κ' hκ' hl hlive
    by_cases e2 : j = k
    · subst e2
      rw [hκ] at hκ'; cases hκ'
      exact hf
    · rw [hne j e2] at hl
      have hfu : ∀ w, κ'.fact us j w → κ'.fact us' j w := by
        intro w hf
        cases κ' with
        | off => trivial
        | det v => trivial
        | sat S => show S (us' j) w; rw [hus j e2]; exact hf
        | lin S n => show S (us' j) w; rw [hus j e2]; exact hf
        | two j0 S =>
          have hlj : j < ops.size := by rw [← hKs]; exact (List.getElem?_eq_some_iff.1 hκ').1
          have hoj : ops[j]? = some ops[j] := Array.getElem?_eq_getElem hlj
          have hd := htwo j j0 S _ hκ' hoj
          have h0 : j0 ≠ k := by
            intro e
            obtain ⟨ed, he, hb, hon⟩ := dep_on hd
            have h1 := h.shut j _ hoj hl ed he hb
            rw [hon, e, hun] at h1; cases h1
          show S (us' j0) (us' j) w
          rw [hus j e2, hus j0 h0]; exact hf
      have hnl : ∀ S, κ' ≠ .lin S k := by
        intro S e
        rw [e] at hlive
        have h1 : (listed.setIfInBounds k true).getD k false = false := hlive
        rw [getD_set_same hlt] at h1; cases h1
      have hlive' : κ'.live listed := by
        cases κ' with
        | lin S n =>
          have h1 : (listed.setIfInBounds k true).getD n false = false := hlive
          have hnk : n ≠ k := fun e => hnl S (by rw [e])
          rw [hne n hnk] at h1
          exact h1
        | off => trivial
        | det v => trivial
        | sat S => trivial
        | two j0 S => trivial
      rcases hst j κ' hκ' k (fun e => e2 e.symm) hnl with hanc | ⟨S, n, e3, hanc⟩ | hS
      · have := anc_listed h.shut hanc hl
        rw [hun] at this; cases this
      · subst e3
        have h1 : listed.getD n false = false := hlive'
        have h2 : listed.getD n false = true := by
          cases hanc with
          | one ho' hd' =>
            rw [ho] at ho'; cases ho'
            obtain ⟨e, he, hb, hon⟩ := dep_on hd'
            rw [← hon]; exact hr e he hb
          | more ho' hd' hrest =>
            rw [ho] at ho'; cases ho'
            obtain ⟨e, he, hb, hon⟩ := dep_on hd'
            exact anc_listed h.shut hrest (by rw [← hon]; exact hr e he hb)
        rw [h1] at h2; cases h2
      · exact hfu _ (hS us _ _ (h.fact j κ' hκ' hl hlive') hE)
def left : Nat → Array Bool → Nat
  | 0, _ => 0
  | m + 1, l => left m l + if l.getD m false then 0 else 1
theorem left_zero {l : Array Bool} : ∀ {n : Nat}, left n l = 0 → ∀ j, j < n → l.getD j false = true
  | 0, _, j, hj => absurd hj (by omega)
  | m + 1, h, j, hj => by
    unfold left at h
    by_cases e : j = m
    · subst e
      cases hl : l.getD j false with
      | true => rfl
      | false => rw [hl] at h; simp at h
    · exact left_zero (n := m) (by omega) j (by omega)
theorem left_far {l : Array Bool} {k : Nat} : ∀ {n : Nat}, n ≤ k → left n (l.setIfInBounds k true) = left n l
  | 0, _ => rfl
  | m + 1, h => by
    unfold left
    rw [left_far (n := m) (by omega), getD_set_ne false (by omega)]
theorem left_set {l : Array Bool} {k : Nat} (hs : k < l.size) (hf : l.getD k false = false) : ∀ {n : Nat}, k < n → left n (l.setIfInBounds k true) + 1 = left n l
  | 0, h => absurd h (by omega)
  | m + 1, h => by
    unfold left
    by_cases e : k = m
    · subst e
      rw [left_far (Nat.le_refl _), getD_set_same hs, hf]; simp
    · rw [getD_set_ne false e, ← left_set hs hf (n := m) (by omega)]; omega
theorem gu_upon {e : World → World → Prop} {o : Oper} {a : Act} {w : World} {S : Value → World → Prop} {K : Act → World → Prop} {r : Result Next} (hg : Gu P e w S r)
    (hK : ∀ u w', e w w' → S u w' → K (a.put o.dst u) w') : o.upon P a K Q r := by
  cases r with
  | ok n w' =>
    cases n <;> simp only [Gu] at hg <;> simp only [Oper.upon]
    case value u => exact hK _ _ hg.1 hg.2
    case skip => exact hK _ _ hg.1 hg.2
    case enter f args =>
      refine hg.mono fun e w'' ⟨u, he, h1, h2⟩ => ?_
      subst he
      exact hK _ _ h1 h2
  | halt x w' => simp only [Gu] at hg
theorem wpAny_grow (hok : Okay ops) (hrf : ∀ k a, E k a a) (htr : ∀ k a b c, R a b → E k b c → R a c) {A0 : Act} {Ks : List Kn} (hKs : Ks.length = ops.size) (hst : ∀ (j : Nat) (κ : Kn), Ks[j]? = some κ → ∀ m, m ≠ j → (∀ S, κ ≠ .lin S m) → Anc ops j m ∨ (∃ S n, κ = .lin S n ∧ Anc ops m n) ∨ (∀ us w w', κ.fact us j w → E m w w' → κ.fact us j w'))
    (hob : ∀ (i : Nat) (o : Oper) (κ : Kn), ops[i]? = some o → Ks[i]? = some κ → ObOf P ops E R w0 i o (An ops A0 Ks i) (Fn Ks i) κ)
    (hend : ∀ us w, R w0 w → Alls us w (Fn Ks ops.size) → Q .normal (An ops A0 Ks ops.size us) w) :
    ∀ (fuel : Nat) (listed : Array Bool) (us : Nat → Value) (a : Act) (w : World), left ops.size listed ≤ fuel → Mid ops R w0 A0 Ks us listed a w → wpAny P .any ops Q fuel listed a w := by
  have fin : ∀ (listed : Array Bool) (us : Nat → Value) (a : Act) (w : World), (∀ j, j < ops.size → listed.getD j false = true) → Mid ops R w0 A0 Ks us listed a w → Q .normal a w := by
    intro listed us a w hall h
    have ha : a = An ops A0 Ks ops.size us := by
      have hd : a.defers = (An ops A0 Ks ops.size us).defers := by rw [h.defers, An_defers]
      have ht : a.tmps = (An ops A0 Ks ops.size us).tmps := by
        apply Array.ext_getElem?
        intro t
        by_cases hw : ∃ (j : Nat) (oj : Oper), ops[j]? = some oj ∧ oj.dst = some t
        · obtain ⟨j, oj, hj, hdj⟩ := hw
          have hjl := (Array.getElem?_eq_some_iff.1 hj).1
          have hKj : Ks[j]? = some (Ks[j]'(by rw [hKs]; exact hjl)) := List.getElem?_eq_getElem _
          rw [h.done j oj _ t hj hKj (hall j hjl) hdj, An_slot_at hok A0 Ks us t j oj _ hj hKj hdj _ hjl]
        · rw [h.rest t fun j' o' hj' hd' => absurd ⟨j', o', hj', hd'⟩ hw, An_slot_not A0 Ks us t _ fun j' o' hlt hj' hd' => absurd ⟨j', o', hj', hd'⟩ hw]
      cases a
      simp only at hd ht
      rw [hd, ht]
    rw [ha]
    refine hend us w h.grown (alls_of _ fun j κ hj hκ hnl => h.fact j _ hκ (hall j hj) (by cases κ <;> first | trivial | exact absurd rfl (hnl _ _)))
  have full : ∀ listed : Array Bool, listed.size = ops.size → Region.ready .any ops listed = [] → ∀ j, j < ops.size → listed.getD j false = true := by
    intro listed hs hr
    intro j
    induction j using Nat.strongRecOn with
    | ind j ih =>
      intro hj
      cases hl : listed.getD j false with
      | true => rfl
      | false =>
        exfalso
        have hoj : ops[j]? = some ops[j] := Array.getElem?_eq_getElem hj
        have hmem : j ∈ Region.ready .any ops listed := mem_ready.2 ⟨by
          have : j < listed.size := by omega
          simp [this] at hl ⊢
          exact hl, ops[j], hoj, fun e he hb => ih e.on (hok.back j _ hoj e he hb) (by have := hok.back j _ hoj e he hb; omega)⟩
        rw [hr] at hmem; cases hmem
  intro fuel
  induction fuel with
  | zero =>
    intro listed us a w hf h
    have hall := left_zero (l := listed) (n := ops.size) (by omega)
    refine ⟨?_, fin listed us a w hall h⟩
    apply List.eq_nil_iff_forall_not_mem.2
    intro j hj
    obtain ⟨h1, o, ho, _⟩ := mem_ready.1 hj
    have hlt := (Array.getElem?_eq_some_iff.1 ho).1
    have h2 := hall j hlt
    have : j < listed.size := by rw [h.size]; exact hlt
    simp [this] at h1 h2
    rw [h1] at h2; cases h2
  | succ fuel ih =>
    intro listed us a w hf h
    refine ⟨fun hr => fin listed us a w (full listed h.size hr) h, fun k hk => ?_⟩
    obtain ⟨h1, o, ho, hr⟩ := mem_ready.1 hk
    have hlt := (Array.getElem?_eq_some_iff.1 ho).1
    have hls : k < listed.size := by rw [h.size]; exact hlt
    have hun : listed.getD k false = false := by
      simp [hls] at h1 ⊢
      exact h1
    have hKk : Ks[k]? = some (Ks[k]'(by rw [hKs]; exact hlt)) := List.getElem?_eq_getElem _
    generalize hκ : Ks[k]'(by rw [hKs]; exact hlt) = κ at hKk
    have hO := hob k o κ ho hKk
    have hslot := h.slots hok hKs ho hun hr
    have hw := wanted_slot (ops := ops) (o := o) hslot
    have he := exec_slot (ops := ops) (o := o) (fun cs b => Region.noSelect_spec hok.sel k o cs b ho) hslot
    have hleft : left ops.size (listed.setIfInBounds k true) ≤ fuel := by have := left_set hls hun (n := ops.size) hlt; omega
    have hhyp : Hyp us w k o (Fn Ks k) := hyp_of _ fun j κ' hj hκ' hlin hd => by
      have hdj : dep o j = true := by
        cases κ' with
        | lin S n =>
          have hlj : j < ops.size := by rw [← hKs]; exact (List.getElem?_eq_some_iff.1 hκ').1
          have hoj : ops[j]? = some ops[j] := Array.getElem?_eq_getElem hlj
          have h3 := (hob j _ _ hoj hκ').1
          rw [← hlin S n rfl] at h3
          unfold depOf at h3
          rw [ho] at h3
          exact h3
        | off => exact hd (fun _ _ e => by cases e)
        | det v => exact hd (fun _ _ e => by cases e)
        | sat S => exact hd (fun _ _ e => by cases e)
        | two j0 S => exact hd (fun _ _ e => by cases e)
      obtain ⟨e, he', hb, hon⟩ := dep_on hdj
      have := hr e he' hb
      rw [hon] at this
      refine h.fact j κ' hκ' this ?_
      cases κ' with
      | lin S n =>
        show listed.getD n false = false
        rw [← hlin S n rfl]; exact hun
      | off => trivial
      | det v => trivial
      | sat S => trivial
      | two j0 S => trivial
    have htwo : ∀ (j j0 : Nat) (S : Value → Value → World → Prop) (oj : Oper), Ks[j]? = some (.two j0 S) → ops[j]? = some oj → dep oj j0 = true := fun j j0 S oj h1 h2 => (hob j oj _ h2 h1).1
    unfold wpOp
    simp only [ho]
    cases κ with
    | off =>
      rw [hw, hO us]
      simp only [Bool.false_eq_true, if_false]
      exact ih _ us _ _ hleft (h.step hok htr hKs hst (us' := us) ho hKk hun hr htwo (fun _ _ => rfl) (hrf k _) trivial)
    | det v =>
      rw [hw, hO.1 us]
      simp only [if_true]
      refine .inl ?_
      unfold Oper.wp
      rw [he]
      refine gu_upon (hO.2 us w h.grown hhyp) fun u w' hE hS => ?_
      subst hS
      exact ih _ us _ _ hleft (h.step hok htr hKs hst (us' := us) ho hKk hun hr htwo (fun _ _ => rfl) hE trivial)
    | lin S n =>
      rw [hw, hO.2.2.1 us]
      simp only [if_true]
      refine .inl ?_
      unfold Oper.wp
      rw [he]
      refine gu_upon (hO.2.2.2 us w h.grown hhyp) fun u w' hE hS => ?_
      have := h.step hok htr hKs hst (us' := fun j => if j = k then u else us j) ho hKk hun hr htwo (fun j hj => if_neg hj) hE (by simpa [Kn.fact] using hS)
      refine ih _ (fun j => if j = k then u else us j) _ _ hleft ?_
      simpa [Kn.val] using this
    | sat S =>
      rw [hw, hO.2.1 us]
      simp only [if_true]
      refine .inl ?_
      unfold Oper.wp
      rw [he]
      refine gu_upon (hO.2.2 us w h.grown hhyp) fun u w' hE hS => ?_
      have := h.step hok htr hKs hst (us' := fun j => if j = k then u else us j) ho hKk hun hr htwo (fun j hj => if_neg hj) hE (by simpa [Kn.fact] using hS)
      refine ih _ (fun j => if j = k then u else us j) _ _ hleft ?_
      simpa [Kn.val] using this
    | two j0 S =>
      rw [hw, hO.2.2.1 us]
      simp only [if_true]
      refine .inl ?_
      unfold Oper.wp
      rw [he]
      refine gu_upon (hO.2.2.2 us w h.grown hhyp) fun u w' hE hS => ?_
      have hne : j0 ≠ k := by
        intro e
        obtain ⟨ed, he, hb, hon⟩ := dep_on hO.1
        have h1 := hr ed he hb
        rw [hon, e, hun] at h1; cases h1
      have := h.step hok htr hKs hst (us' := fun j => if j = k then u else us j) ho hKk hun hr htwo (fun j hj => if_neg hj) hE (by show S (if j0 = k then u else us j0) (if k = k then u else us k) w'; rw [if_neg hne, if_pos rfl]; exact hS)
      refine ih _ (fun j => if j = k then u else us j) _ _ hleft ?_
      simpa [Kn.val] using this
theorem wp_region_grow {id : Nat} {a : Act} {w : World} (hm : P.follows .mixedOrders = true) (hR : okR ops = true) (hrf : ∀ k a, E k a a) (htr : ∀ k a b c, R a b → E k b c → R a c) (hdr : R w w.drew)
    (h : wpG P ops E R w Q ops.toList 0 (fun _ => a) []) : (Code.region id ops true).wp P Q a w := by
  have hok := okR_spec hR
  obtain ⟨Ks, hlen, hob, hend⟩ := wpG_extract (ops := ops) a ops.toList 0 [] rfl (fun j => by simp) h
  simp only [List.nil_append, Nat.zero_add, Array.length_toList] at hlen hob hend
  have hst : ∀ (j : Nat) (κ : Kn), Ks[j]? = some κ → ∀ m, m ≠ j → (∀ S, κ ≠ .lin S m) → Anc ops j m ∨ (∃ S n, κ = .lin S n ∧ Anc ops m n) ∨ (∀ us w w', κ.fact us j w → E m w w' → κ.fact us j w') := by
    intro j κ hκ m hm hnl
    have hj : j < Ks.length := (List.getElem?_eq_some_iff.1 hκ).1
    have hoj : ops[j]? = some (ops[j]'(by omega)) := Array.getElem?_eq_getElem _
    have := hob j _ κ (Nat.zero_le _) hoj hκ
    cases κ with
    | off => exact .inr (.inr fun u w w' _ _ => trivial)
    | det v => exact .inr (.inr fun u w w' _ _ => trivial)
    | sat S => exact (this.1 m hm).imp (fun h => h) (fun h => .inr fun us w w' h1 h2 => h _ _ _ h1 h2)
    | lin S n => exact (this.2.1 m hm (fun e => hnl S (by rw [e]))).imp (fun h => h) (Or.imp (fun h => ⟨S, n, rfl, h⟩) (fun h us w w' h1 h2 => h _ _ _ h1 h2))
    | two j0 S => exact (this.2.1 m hm).imp (fun h => h) (fun h => .inr fun us w w' h1 h2 => h _ _ _ _ h1 h2)
  refine wp_region_any hm (wpAny_grow hok hrf htr hlen hst (fun i o κ ho hκ => hob i o κ (Nat.zero_le _) ho hκ) hend ops.size (Array.replicate ops.size false) (fun _ => undef) a _ ?_ ?_)
  · have : ∀ n l, left n l ≤ n := by
      intro n
      induction n with
      | zero => intro l; exact Nat.le_refl _
      | succ n ih => intro l; unfold left; have := ih l; split <;> omega
    exact this _ _
  · have hno : ∀ j, (Array.replicate ops.size false).getD j false = false := by
      intro j
      simp only [Array.getD_eq_getD_getElem?, Array.getElem?_replicate]
      split <;> rfl
    refine ⟨by simp, hdr, rfl, fun j o _ hl => ?_, fun t _ => rfl, fun j o κ t _ _ hl => ?_, fun j κ _ hl _ => ?_⟩
    all_goals (rw [hno] at hl; cases hl)
def Gr (a b : World) : Prop := Below a.heap.size a b
theorem Gr.refl (a : World) : Gr a a := Below.refl _ _
theorem Gr.trans (a b c : World) (h : Gr a b) (k : Gr b c) : Gr a c := Below.trans h (k.mono h.size)
theorem wp_region_gr {id : Nat} {a : Act} {w : World} {l : List Oper} (hm : P.follows .mixedOrders = true) (hR : okR l.toArray = true)
    (h : wpG P l.toArray (fun _ => Gr) Gr w Q l 0 (fun _ => a) []) : (Code.region id l.toArray true).wp P Q a w :=
  wp_region_grow hm hR (fun _ => Gr.refl) (fun _ => Gr.trans) (Below.drew (Below.refl _ _)) (by simpa using h)
def GuC (E : World → World → Prop) (w : World) (S : Value → World → Prop) (e : Ending) (w'' : World) : Prop := ∃ u, e = .returned u ∧ E w w'' ∧ S u w''
def GuV (E : World → World → Prop) (w : World) (S : Value → World → Prop) (u : Value) (w' : World) : Prop := E w w' ∧ S u w'
def Gv (P : Program) (E : World → World → Prop) (w : World) (S : Value → World → Prop) : Result Next → Prop
  | .ok (.value u) w' => GuV E w S u w'
  | .ok .skip w' => GuV E w S undef w'
  | .ok (.enter f args) w' => Calls P f args w' (GuC E w S)
  | _ => False
theorem gu_of_gv {E : World → World → Prop} {w : World} {S : Value → World → Prop} {r : Result Next} (h : Gv P E w S r) : Gu P E w S r := by
  cases r with
  | ok n w' => cases n <;> first | exact h | exact h.elim
  | halt x w' => exact h.elim
theorem wpG_det {o : Oper} {l : List Oper} {k : Nat} {A A' : (Nat → Value) → Act} {F : List (Nat × ((Nat → Value) → World → Prop) × Option Nat)} {v : Value}
    (hw : ∀ us, Region.wanted o (yielded ops (A us).tmps) = true) (hr : ∀ us w, R w0 w → Hyp us w k o F → Gv P (E k) w (fun u _ => u = v) ((execOp (A us).eval o).run P w))
    (hA : ∀ us, (A us).put o.dst v = A' us) (hk : wpG P ops E R w0 Q l (k + 1) A' F) : wpG P ops E R w0 Q (o :: l) k A F :=
  ⟨.det v, ⟨hw, fun us w h1 h2 => gu_of_gv (hr us w h1 h2)⟩, (funext hA : Aput A o k (.det v) = A') ▸ hk⟩
theorem wpG_sat' {o : Oper} {l : List Oper} {k : Nat} {A A' : (Nat → Value) → Act} {F : List (Nat × ((Nat → Value) → World → Prop) × Option Nat)} (S : Value → World → Prop) (hS : ∀ m, m ≠ k → Anc ops k m ∨ St (E m) S)
    (hw : ∀ us, Region.wanted o (yielded ops (A us).tmps) = true) (hr : ∀ us w, R w0 w → Hyp us w k o F → Gv P (E k) w S ((execOp (A us).eval o).run P w))
    (hA : ∀ us, (A us).put o.dst (us k) = A' us) (hk : wpG P ops E R w0 Q l (k + 1) A' ((k, fun us w => S (us k) w, none) :: F)) : wpG P ops E R w0 Q (o :: l) k A F :=
  ⟨.sat S, ⟨hS, hw, fun us w h1 h2 => gu_of_gv (hr us w h1 h2)⟩, (funext hA : Aput A o k (.sat S) = A') ▸ hk⟩
theorem wpG_sat {o : Oper} {l : List Oper} {k : Nat} {A A' : (Nat → Value) → Act} {F : List (Nat × ((Nat → Value) → World → Prop) × Option Nat)} (S : Value → World → Prop) (hS : St Gr S)
    (hw : ∀ us, Region.wanted o (yielded ops (A us).tmps) = true) (hr : ∀ us w, R w0 w → Hyp us w k o F → Gv P Gr w S ((execOp (A us).eval o).run P w))
    (hA : ∀ us, (A us).put o.dst (us k) = A' us) (hk : wpG P ops (fun _ => Gr) R w0 Q l (k + 1) A' ((k, fun us w => S (us k) w, none) :: F)) : wpG P ops (fun _ => Gr) R w0 Q (o :: l) k A F :=
  wpG_sat' (E := fun _ => Gr) S (fun _ _ => .inr hS) hw hr hA hk
theorem wp_region_gr' {id : Nat} {a : Act} {w : World} {l : List Oper} (hm : P.follows .mixedOrders = true) (hR : okR l.toArray = true)
    (h : ∀ ops : Array Oper, Hid (ops = l.toArray) → wpG P ops (fun _ => Gr) Gr w Q l 0 (fun _ => a) []) : (Code.region id l.toArray true).wp P Q a w :=
  wp_region_gr hm hR (h _ rfl)
def ancB (ops : Array Oper) : Nat → Nat → Nat → Bool
  | 0, _, _ => false
  | f + 1, j, m => match ops[j]? with
    | some o => dep o m || o.after.toList.any fun e => Region.binds .any e && ancB ops f e.on m
    | none => false
def Ow (B0 : Nat) (a b : World) : Prop := B0 ≤ a.heap.size → Below B0 a b
def Etwo (B0 c d : Nat) (k : Nat) : World → World → Prop := if k = c ∨ k = d then Ow B0 else Gr
end
end Go.Proofs.YtgfnpcmehnjopaaGreatDoor
end
section
namespace Go.Proofs.YtgfnpcmehnjopaaGreatDoor
open Go
def B (a : UInt8) : Int := (a.toNat : Int)
def U (a : UInt32) : Int := (a.toNat : Int)
def W (a : UInt64) : Int := (a.toNat : Int)
theorem W_nat (a : UInt64) : (W a).toNat = a.toNat := rfl
theorem B_lo (a : UInt8) : 0 ≤ B a := Int.natCast_nonneg _
theorem U_lo (a : UInt32) : 0 ≤ U a := Int.natCast_nonneg _
theorem W_lo (a : UInt64) : 0 ≤ W a := Int.natCast_nonneg _
theorem B_hi (a : UInt8) : B a < 256 := by have := a.toNat_lt; unfold B; omega
theorem U_hi (a : UInt32) : U a < 4294967296 := by have := a.toNat_lt; unfold U; omega
theorem W_hi (a : UInt64) : W a < 18446744073709551616 := by have := a.toNat_lt; unfold W; omega
theorem B_inj {a b : UInt8} (h : B a = B b) : a = b := UInt8.toNat_inj.1 (by unfold B at h; omega)
theorem U_xor (a b : UInt32) : bits .xor .u32 (U a) (U b) = U (a ^^^ b) := by
  unfold U; rw [u32_xor_nat _ _ a.toNat_lt b.toNat_lt, UInt32.toNat_xor]
theorem U_and (a b : UInt32) : bits .and .u32 (U a) (U b) = U (a &&& b) := by
  unfold U; rw [u32_and_nat _ _ a.toNat_lt b.toNat_lt, UInt32.toNat_and]
theorem U_and15 (a : UInt32) : bits .and .u32 (U a) 15 = U (a &&& 15) := U_and a 15
theorem U_not (a : UInt32) : bits .xor .u32 IntKind.u32.max (U a) = U (~~~a) := by
  have h : (IntKind.u32.max : Int) = U 0xffffffff := by decide
  rw [h, U_xor]
  congr 1
theorem U_xorB (a : UInt32) (b : UInt8) : bits .xor .u32 (U a) (B b) = U (a ^^^ b.toUInt32) := by
  rw [← U_xor]; rfl
theorem U_shr4 (a : UInt32) : U a / (16 : Int) = U (a >>> 4) := by
  unfold U
  rw [UInt32.toNat_shiftRight]
  show _ = ((a.toNat >>> 4 : Nat) : Int)
  rw [Nat.shiftRight_eq_div_pow]
  rfl
theorem U_xor_shr4 (a b : UInt32) : bits .xor .u32 (U a) (U b / (16 : Int)) = U (a ^^^ b >>> 4) := by rw [U_shr4, U_xor]
theorem U_b0 (a : UInt32) : U a % (256 : Int) = B a.toUInt8 := by
  unfold U B
  rw [UInt32.toNat_toUInt8]; rfl
theorem U_shr8 (a : UInt32) : U a / (256 : Int) = U (a >>> 8) := by
  unfold U
  rw [UInt32.toNat_shiftRight]
  show _ = ((a.toNat >>> 8 : Nat) : Int)
  rw [Nat.shiftRight_eq_div_pow]
  rfl
theorem U_shr16 (a : UInt32) : U a / (65536 : Int) = U (a >>> 16) := by
  unfold U
  rw [UInt32.toNat_shiftRight]
  show _ = ((a.toNat >>> 16 : Nat) : Int)
  rw [Nat.shiftRight_eq_div_pow]
  rfl
theorem U_shr24 (a : UInt32) : U a / (16777216 : Int) = U (a >>> 24) := by
  unfold U
  rw [UInt32.toNat_shiftRight]
  show _ = ((a.toNat >>> 24 : Nat) : Int)
  rw [Nat.shiftRight_eq_div_pow]
  rfl
theorem U_b1 (a : UInt32) : U a / (256 : Int) % (256 : Int) = B (a >>> 8).toUInt8 := by rw [U_shr8, U_b0]
theorem U_b2 (a : UInt32) : U a / (65536 : Int) % (256 : Int) = B (a >>> 16).toUInt8 := by rw [U_shr16, U_b0]
theorem U_b3 (a : UInt32) : U a / (16777216 : Int) % (256 : Int) = B (a >>> 24).toUInt8 := by rw [U_shr24, U_b0]
def mbit (m : UInt32) (k : Nat) : Bool := m.toNat.testBit k
theorem U_bit (m : UInt32) (k : Nat) : bits .and .u32 (U m / 2 ^ k) 1 = if mbit m k then 1 else 0 := by
  unfold U mbit
  have h : ((m.toNat : Int) / 2 ^ k) = ((m.toNat / 2 ^ k : Nat) : Int) := by simp
  have hlt : m.toNat / 2 ^ k < 4294967296 := Nat.lt_of_le_of_lt (Nat.div_le_self _ _) m.toNat_lt
  rw [h]
  refine (u32_and_nat (m.toNat / 2 ^ k) 1 hlt (by decide)).trans ?_
  rw [Nat.and_one_is_mod, Nat.testBit_eq_decide_div_mod_eq]
  by_cases hb : m.toNat / 2 ^ k % 2 = 1
  · simp [hb]
  · have : m.toNat / 2 ^ k % 2 = 0 := by omega
    simp [this]
theorem B_xor (a b : UInt8) : bits .xor .u8 (B a) (B b) = B (a ^^^ b) := by
  unfold B; rw [u8_xor_nat _ _ a.toNat_lt b.toNat_lt, UInt8.toNat_xor]
theorem B_pow (k : Nat) : (2 : Int) ^ k % (256 : Int) = B (UInt8.ofNat (2 ^ k)) := by
  unfold B
  rw [UInt8.toNat_ofNat', Int.natCast_emod]
  simp
theorem B_xor_pow (a : UInt8) (k : Nat) : bits .xor .u8 (B a) ((2 : Int) ^ k % (256 : Int)) = B (a ^^^ UInt8.ofNat (2 ^ k)) := by rw [B_pow, B_xor]
theorem U_half (a : UInt32) : U a / (2 : Int) = U (a >>> 1) := by
  unfold U
  rw [UInt32.toNat_shiftRight]
  show _ = ((a.toNat >>> 1 : Nat) : Int)
  rw [Nat.shiftRight_eq_div_pow]
  rfl
theorem U_flip (a : UInt32) : (4294967295 : Int) - U a = U (~~~a) := by
  unfold U
  have := a.toNat_lt
  rw [UInt32.toNat_not]
  show _ = ((2 ^ 32 - 1 - a.toNat : Nat) : Int)
  omega
end Go.Proofs.YtgfnpcmehnjopaaGreatDoor
end
section
namespace Go.Proofs.YtgfnpcmehnjopaaGreatDoor
open Go.RowKit
set_option linter.unusedVariables false
set_option linter.unusedSimpArgs false
def bv (b : UInt8) : Value := .int .u8 (B b)
theorem bvs_one (l : List UInt8) : ∀ u ∈ l.map bv, u.oneCell' = true := by
  intro u hu
  obtain ⟨b, _, rfl⟩ := List.mem_map.1 hu
  rfl
theorem add_block (a : Addr) (n : Nat) : (a.add n).block = a.block := by unfold Addr.add; split <;> rfl
theorem add_zero_row (g j : Nat) : (⟨g, 0, none⟩ : Addr).add j = ⟨g, j, none⟩ := by unfold Addr.add; split <;> simp_all
def Sl (w : World) (size : Nat) (v : Value) (n : Nat) (cs : List Value) : Prop :=
  ∃ A c, v = .slice A n c ∧ n ≤ c ∧ c ≤ maxLen ∧ cs.length = n * size ∧
    (0 < n → ∃ ad, A = some ad ∧ ad.block < w.heap.size ∧ ∀ j u, cs[j]? = some u → w.cell? (ad.add j) = some u)
def Sb (w : World) (v : Value) (l : List UInt8) : Prop := Sl w 1 v l.length (l.map bv)
section
variable {w w' : World} {size n : Nat} {v : Value} {cs : List Value} {l : List UInt8}
theorem Sl.keep (h : Sl w size v n cs) (hs : w.heap.size ≤ w'.heap.size)
    (hk : ∀ ad : Addr, ad.block < w.heap.size → w'.cell? ad = w.cell? ad) : Sl w' size v n cs := by
  obtain ⟨A, c, hv, h1, h2, h3, h4⟩ := h
  refine ⟨A, c, hv, h1, h2, h3, fun hn => ?_⟩
  obtain ⟨ad, hA, hb, hc⟩ := h4 hn
  exact ⟨ad, hA, by omega, fun j u hu => (hk _ (by rw [add_block]; exact hb)).trans (hc j u hu)⟩
theorem Sl.drew (h : Sl w size v n cs) : Sl w.drew size v n cs := h
theorem Sl.below (h : Sl w size v n cs) (hb : Below w.heap.size w w') : Sl w' size v n cs := h.keep hb.size fun _ h => hb.cell h
theorem Sl.drewN (h : Sl w size v n cs) (k : Nat) : Sl (w.drewN k) size v n cs := h
theorem Sl.alloc (h : Sl w size v n cs) (o : Obj) : Sl (w.alloc o) size v n cs := h.below ((Below.refl _ _).alloc (Nat.le_refl _) o)
theorem Sl.max (h : Sl w size v n cs) : n ≤ maxLen := by
  obtain ⟨A, c, hv, h1, h2, _⟩ := h
  omega
theorem Sl.none_ (size c : Nat) (hc : c ≤ maxLen) : Sl w size (.slice none 0 c) 0 [] := ⟨none, c, rfl, Nat.zero_le _, hc, by simp, fun h => absurd h (by omega)⟩
theorem Sl.form (h : Sl w size v n cs) : ∃ A c, v = .slice A n c ∧ n ≤ c ∧ c ≤ 9223372036854775807 := by
  obtain ⟨A, c, hv, h1, h2, _⟩ := h
  exact ⟨A, c, hv, h1, h2⟩
theorem Sl.at_ {A : Option Addr} {n' c : Nat} (h : Sl w 1 (.slice A n' c) n cs) (k : Nat) (hk : k < n) : ∃ ad u, A = some ad ∧ cs[k]? = some u ∧ w.cell? (ad.add k) = some u := by
  obtain ⟨A', c', hv, h1, h2, h3, h4⟩ := h
  injection hv with e1 e2 e3
  subst e1
  obtain ⟨ad, hA, _, hc⟩ := h4 (by omega)
  have hl : k < cs.length := by omega
  exact ⟨ad, cs[k], hA, List.getElem?_eq_getElem hl, hc k _ (List.getElem?_eq_getElem hl)⟩
theorem Sl.new (w : World) (cs : Array Value) (e : TypeId) (hm : cs.size ≤ 9223372036854775807) (fr : Nat × Nat := (0, 0)) : Sl (w.alloc (.cells cs e fr)) 1 (.slice (some ⟨w.heap.size, 0, none⟩) cs.size cs.size) cs.size cs.toList := by
  refine ⟨_, _, rfl, Nat.le_refl _, hm, by simp, fun _ => ⟨_, rfl, by simp, fun j u hu => ?_⟩⟩
  rw [add_zero_row, cell_of_row _ _ _ _ _ _ (heap_alloc_new w _), ← Array.getElem?_toList]
  exact hu
theorem Sl.of_own {base : Nat} {e : TypeId} (h : w.ownsRow base e size v n cs) : Sl w size v n cs := by
  obtain ⟨h1, h2⟩ := h
  rcases h2 with ⟨rfl, rfl⟩ | ⟨g, cap, cur, rfl, hb, hg, hn, hm, hsz, ht⟩
  · have : cs = [] := List.eq_nil_of_length_eq_zero (by simpa using h1)
    subst this
    exact Sl.none_ size 0 (Nat.zero_le _)
  · have hlt : g < w.heap.size := by
      rcases Nat.lt_or_ge g w.heap.size with h | h
      · exact h
      · rw [Array.getElem?_eq_none h] at hg; cases hg
    refine ⟨_, _, rfl, hn, hm, h1, fun _ => ⟨_, rfl, hlt, ?_⟩⟩
    exact World.ownsRow.cells ⟨h1, .inr ⟨g, cap, cur, rfl, hb, hg, hn, hm, hsz, ht⟩⟩ rfl
theorem Sb.below (h : Sb w v l) (hb : Below w.heap.size w w') : Sb w' v l := Sl.below h hb
theorem Sb.max (h : Sb w v l) : l.length ≤ 9223372036854775807 := Sl.max h
theorem Sb.form (h : Sb w v l) : ∃ A c, v = .slice A l.length c ∧ l.length ≤ c ∧ c ≤ 9223372036854775807 := Sl.form h
theorem Sb.at_ {A : Option Addr} {n c : Nat} (h : Sb w (.slice A n c) l) (k : Nat) (hk : k < l.length) :
    ∃ ad, A = some ad ∧ w.cell? (ad.add k) = some (.int .u8 (B l[k])) := by
  obtain ⟨ad, u, hA, hu, hc⟩ := Sl.at_ h k hk
  rw [List.getElem?_map, List.getElem?_eq_getElem hk] at hu
  injection hu with hu
  subst hu
  exact ⟨ad, hA, hc⟩
end
theorem below_then {B0 : Nat} {w w1 w2 : World} (h : Below B0 w w1) (hB : B0 ≤ w1.heap.size) (k : Below w1.heap.size w1 w2) : Below B0 w w2 := h.trans (k.mono hB)
theorem below_drewN {B0 : Nat} {a w : World} (h : Below B0 a w) (n : Nat) : Below B0 a (w.drewN n) := ⟨h.os, h.tape, h.output, h.size, h.block⟩
def Ob (w : World) (base : Nat) (v : Value) (l : List UInt8) : Prop := w.ownsRow base 5 1 v l.length (l.map bv)
section
variable {w w' : World} {base e size n : Nat} {v : Value} {cs : List Value} {l : List UInt8}
theorem own_below (h : w.ownsRow base e size v n cs) (hb : Below w.heap.size w w') : w'.ownsRow base e size v n cs := by
  obtain ⟨h1, h2⟩ := h
  refine ⟨h1, ?_⟩
  rcases h2 with h2 | ⟨g, cap, cur, hv, hb', hg, h3⟩
  · exact .inl h2
  · have hlt : g < w.heap.size := by
      rcases Nat.lt_or_ge g w.heap.size with h | h
      · exact h
      · rw [Array.getElem?_eq_none h] at hg; cases hg
    exact .inr ⟨g, cap, cur, hv, hb', (hb.block g hlt).trans hg, h3⟩
theorem own_base {base' : Nat} (h : w.ownsRow base e size v n cs) (hb : base' ≤ base) : w.ownsRow base' e size v n cs := by
  obtain ⟨h1, h2⟩ := h
  refine ⟨h1, ?_⟩
  rcases h2 with h2 | ⟨g, cap, cur, hv, hb', h3⟩
  · exact .inl h2
  · exact .inr ⟨g, cap, cur, hv, Nat.le_trans hb hb', h3⟩
theorem own_ge (h : w.ownsRow base e size v n cs) : ∀ k, v.ownBlock = some k → base ≤ k := fun k hk => (h.lt k hk).1
theorem own_nil (w : World) (base e size : Nat) : w.ownsRow base e size (.slice none 0 0) 0 [] := World.ownsRow_nil w base e size
theorem own_new (w : World) (cs : Array Value) (e n size base : Nat) (hb : base ≤ w.heap.size) (hl : cs.size = n * size) (hm : n ≤ 9223372036854775807) :
    (w.alloc (.cells cs e)).ownsRow base e size (.slice (some ⟨w.heap.size, 0, none⟩) n n) n cs.toList :=
  ⟨by rw [Array.length_toList]; exact hl, .inr ⟨_, _, cs, rfl, hb, heap_alloc_new w _, Nat.le_refl _, hm, hl, List.take_of_length_le (by rw [Array.length_toList, hl]; exact Nat.le_refl _)⟩⟩
theorem Ob.sb (h : Ob w base v l) : Sb w v l := Sl.of_own h
theorem Ob.below (h : Ob w base v l) (hb : Below w.heap.size w w') : Ob w' base v l := own_below h hb
theorem Ob.to {base' : Nat} (h : Ob w base v l) (hb : base' ≤ base) : Ob w base' v l := own_base h hb
theorem Ob.nil (w : World) (base : Nat) : Ob w base (.slice none 0 0) [] := own_nil w base _ _
end
theorem add_add_ (a : Addr) (i j : Nat) : (a.add i).add j = a.add (i + j) := by
  unfold Addr.add
  by_cases hi : i = 0 <;> by_cases hj : j = 0 <;> simp [hi, hj, Nat.add_assoc]
theorem Sl.take {w : World} {size n c : Nat} {A : Option Addr} {cs : List Value} (h : Sl w size (.slice A n c) n cs) (m : Nat) (hm : m ≤ n) : Sl w size (.slice A m c) m (cs.take (m * size)) := by
  obtain ⟨A', c', hv, h1, h2, h3, h4⟩ := h
  injection hv with e1 e2 e3
  subst e1; subst e3
  refine ⟨_, _, rfl, by omega, h2, by rw [List.length_take, h3]; exact Nat.min_eq_left (Nat.mul_le_mul_right _ hm), fun hp => ?_⟩
  obtain ⟨ad, hA, hb, hc⟩ := h4 (by omega)
  exact ⟨ad, hA, hb, fun j u hu => hc j u (by
    rw [List.getElem?_take] at hu
    split at hu
    · exact hu
    · cases hu)⟩
theorem Sl.drop {w : World} {size n c : Nat} {A : Option Addr} {cs : List Value} (h : Sl w size (.slice A n c) n cs) (k : Nat) (hk : k ≤ n) :
    Sl w size (.slice (if c = k then A else A.map (·.add (k * size))) (n - k) (c - k)) (n - k) (cs.drop (k * size)) := by
  obtain ⟨A', c', hv, h1, h2, h3, h4⟩ := h
  injection hv with e1 e2 e3
  subst e1; subst e3
  refine ⟨_, _, rfl, by omega, by omega, by rw [List.length_drop, h3, Nat.sub_mul], fun hp => ?_⟩
  obtain ⟨ad, rfl, hb, hc⟩ := h4 (by omega)
  rw [if_neg (by omega)]
  refine ⟨ad.add (k * size), rfl, by rw [add_block]; exact hb, fun j u hu => ?_⟩
  rw [add_add_]
  exact hc _ u (by rw [← hu, List.getElem?_drop])
theorem Sb.take {w : World} {c : Nat} {A : Option Addr} {l : List UInt8} (h : Sb w (.slice A l.length c) l) (m : Nat) (hm : m ≤ l.length) : Sb w (.slice A m c) (l.take m) := by
  have := Sl.take h m hm
  unfold Sb
  rw [List.length_take, Nat.min_eq_left hm, List.map_take]
  simpa using this
theorem Sb.drop {w : World} {c : Nat} {A : Option Addr} {l : List UInt8} (h : Sb w (.slice A l.length c) l) (k : Nat) (hk : k ≤ l.length) :
    Sb w (.slice (if c = k then A else A.map (·.add k)) (l.length - k) (c - k)) (l.drop k) := by
  have := Sl.drop h k hk
  unfold Sb
  rw [List.length_drop, List.map_drop]
  simpa using this
theorem Ob.at_ {w : World} {base n c : Nat} {A : Option Addr} {l : List UInt8} (h : Ob w base (.slice A n c) l) (k : Nat) (hk : k < l.length) :
    ∃ g, A = some ⟨g, 0, none⟩ ∧ base ≤ g ∧ w.frozen? ⟨g, k, none⟩ = false ∧ w.cell? ⟨g, k, none⟩ = some (.int .u8 (B (l.getD k 0))) := by
  have hcells : ∀ g, (Value.slice A n c).ownBlock = some g → _ := fun g hg => World.ownsRow.cells h (g := g) hg
  obtain ⟨h1, h2⟩ := h
  rcases h2 with ⟨h2, h3⟩ | ⟨g, cap, cur, hv, hb, hg, h3⟩
  · omega
  · injection hv with e1 e2 e3
    subst e1
    refine ⟨g, rfl, hb, by simp [World.frozen?, hg], ?_⟩
    have := hcells g rfl k (.int .u8 (B (l.getD k 0))) (by rw [List.getElem?_map, List.getElem?_eq_getElem hk]; simp [bv, List.getD_eq_getElem?_getD, hk])
    rwa [add_zero_row] at this
theorem Ob.set_ {w : World} {base n c g : Nat} {l : List UInt8} (h : Ob w base (.slice (some ⟨g, 0, none⟩) n c) l) (j : Nat) (y : UInt8) :
    Ob (w.setCell ⟨g, j, none⟩ (.int .u8 (B y))) base (.slice (some ⟨g, 0, none⟩) n c) (l.set j y) := by
  have hn : n = l.length := by
    rcases h.2 with ⟨h2, h3⟩ | ⟨g, cap, cur, hv, _⟩
    · cases h2
    · injection hv
  subst hn
  have := (World.ownsRow.stored h j (bv y)).1
  unfold Ob
  rw [List.length_set, List.map_set]
  exact this
theorem run_app {P : Program} (w : World) (base : Nat) (t ty e : TypeId) (z : Value) (size bytes : Nat) (ht : P.underlying t = some (.slice e)) (hinfo : (P.info? e).map (fun i => (i.zero, i.size, i.bytes)) = some (some z, size, bytes))
    (hzs : z.cells.size = size) (hsz : 0 < size) (v : Value) (n : Nat) (xs : List Value) (hown : w.ownsRow base e size v n xs)
    (u : Value) (m : Nat) (news : List Value) (hr : Sl w size u m news) (h1 : ∀ u ∈ news, u.oneCell' = true)
    (hbytes : (n + m) * bytes ≤ 140737488355328) (h63 : n + m ≤ maxLen) (hbase : base ≤ w.heap.size) :
    ∃ v' w', (Builtin.append_ #[t, t] ty #[v, u]).run P w = .ok v' w' ∧ w'.ownsRow base e size v' (n + m) (xs ++ news) ∧ w.grownBy w' v.ownBlock ∧ (v'.ownBlock = v.ownBlock ∨ v'.ownBlock = some w.heap.size) := by
  obtain ⟨i, hi, hz, hsize, hby⟩ := info_parts hinfo
  obtain ⟨A, c, rfl, hmc, hc, hlen, hcells⟩ := hr
  cases A with
  | none =>
    have hm : m = 0 := by
      rcases Nat.eq_zero_or_pos m with h0 | h0
      · exact h0
      · obtain ⟨_, h, _⟩ := hcells h0; cases h
    subst hm
    have hn : news = [] := List.eq_nil_of_length_eq_zero (by simpa using hlen)
    subst hn
    refine ⟨v, w, ?_, by simpa using hown, World.grownBy.refl w _, .inl rfl⟩
    rcases hown.2 with ⟨rfl, rfl⟩ | ⟨g, cap, cur, rfl, _, _, hnc, _⟩
    · simp [Builtin.append_, run_underlying ht, sizeOf, typeInfo, hi, Builtin.lenOf, Builtin.firstCells]
    · simp [Builtin.append_, run_underlying ht, sizeOf, typeInfo, hi, Builtin.lenOf, Builtin.firstCells, hnc, storeCells]
  | some ad =>
    have hcs : ∀ j u, news[j]? = some u → w.cell? (ad.add j) = some u := by
      intro j u hu
      rcases Nat.eq_zero_or_pos m with h0 | h0
      · subst h0
        have hn : news = [] := List.eq_nil_of_length_eq_zero (by simpa using hlen)
        subst hn
        simp at hu
      · obtain ⟨ad', h, _, hc⟩ := hcells h0
        injection h with h
        exact h ▸ hc j u hu
    obtain ⟨v', w', hrun, h2, h3, _, h5⟩ := run_append_own_at (P := P) w base t ty e i z size bytes ht hi hz hsize hby hzs hsz v n xs hown ad m c news hlen hcs h1 h63 hbytes hbase
    exact ⟨v', w', hrun, h2, h3, h5⟩
theorem wpList_app {P : Program} (w : World) {ops : Array Oper} {rest : List Oper} {o : Oper} {a : Act} {Q : Exit → Act → World → Prop} (hw : Region.wanted o (yielded ops a.tmps) = true) (s x : Operand) (t : TypeId)
    (ho : o.op = .call { callee := .builtin .append, args := #[s, x], argTypes := #[t, t] })
    (base : Nat) (e : TypeId) (z : Value) (size bytes : Nat) (ht : P.underlying t = some (.slice e)) (hinfo : (P.info? e).map (fun i => (i.zero, i.size, i.bytes)) = some (some z, size, bytes))
    (hzs : z.cells.size = size) (hsz : 0 < size)
    (v : Value) (n : Nat) (xs : List Value) (hs : a.eval s = v) (hown : w.ownsRow base e size v n xs)
    (u : Value) (m : Nat) (news : List Value) (hx : a.eval x = u) (hr : Sl w size u m news) (h1 : ∀ u ∈ news, u.oneCell' = true)
    (hbytes : (n + m) * bytes ≤ 140737488355328) (h63 : n + m ≤ maxLen) (hbase : base ≤ w.heap.size)
    (h : ∀ v' w', w'.ownsRow base e size v' (n + m) (xs ++ news) → w.grownBy w' v.ownBlock → (v'.ownBlock = v.ownBlock ∨ v'.ownBlock = some w.heap.size) → wpList P ops Q rest (a.put o.dst v') w') :
    wpList P ops Q (o :: rest) a w := by
  refine wpList_step fun K hK => ?_
  rw [if_pos hw]
  obtain ⟨v', w', hrun, h2, h3, h4⟩ := run_app (P := P) w base t o.type e z size bytes ht hinfo hzs hsz v n xs hown u m news hr h1 hbytes h63 hbase
  unfold Oper.wp execOp
  simp only [ho, resolve, invoke, builtin, Sem.run_bind, Sem.run_pure, Result.andThen_ok, List.map_toArray, List.map_cons, List.map_nil, hs, hx, hrun]
  exact hK _ _ (h v' w' h2 h3 h4)
def RetB (w : World) (l : List UInt8) (e : Ending) (w' : World) : Prop := ∃ u, e = .returned u ∧ Ob w' w.heap.size u l ∧ Below w.heap.size w w'
def RetBE (w : World) (l : List UInt8) (n : Int) (e : Ending) (w' : World) : Prop := ∃ u, e = .returned (.tuple #[u, .int .i64 n]) ∧ Ob w' w.heap.size u l ∧ Below w.heap.size w w'
def RetV (w : World) (v : Value) (e : Ending) (w' : World) : Prop := e = .returned v ∧ Below w.heap.size w w'
theorem Sb.new (w : World) (e : TypeId) (l : List UInt8) (cs : Array Value) (hc : cs.toList = l.map bv) (hl : l.length ≤ 1000000) (n : Nat) (hn : n = l.length) (fr : Nat × Nat := (0, 0)) : Sb (w.alloc (.cells cs e fr)) (.slice (some ⟨w.heap.size, 0, none⟩) n n) l := by
  have hs : cs.size = l.length := by rw [← Array.length_toList, hc, List.length_map]
  subst hn
  have := Sl.new w cs e (by omega) fr
  rw [hs, hc] at this
  exact this
theorem gthen {a b c : World} (h : Below a.heap.size a b) (k : Below b.heap.size b c) : Below a.heap.size a c := below_then h h.size k
end Go.Proofs.YtgfnpcmehnjopaaGreatDoor
end
section
namespace Go.Proofs.YtgfnpcmehnjopaaGreatDoor
open Go.RowKit
set_option linter.unusedVariables false
set_option linter.unusedSimpArgs false
theorem info_u8 : (Tryz.prog.info? 5).map (fun i => (i.zero, i.size, i.bytes)) = some (some (.int .u8 0), 1, 1) := by kernel_rfl
theorem eql_nil_u8 (W : World) (A : Option Addr) (n c : Nat) : (binOp .eql 25 (.slice A n c) (.slice none 0 0)).run Tryz.prog W = .ok (.bool A.isNone) W :=
  Lib.run_eql_slice_nil (P := Tryz.prog) W 25 5 A n c 0 0 Tryz.underlying25
set_option maxHeartbeats 400000 in
theorem same_c (v u : Value) (l m : List UInt8) (w : World) (h : Sb w v l) (h' : Sb w u m) :
    Calls Tryz.prog 14 #[v, u] w (RetV w (.bool (decide (l = m)))) := by
  obtain ⟨A, c, rfl, h1, h2⟩ := h.form
  obtain ⟨A', c', rfl, h1', h2'⟩ := h'.form
  by_cases hlen : l.length = m.length
  · have hm : m.length ≤ 9223372036854775807 := by omega
    have H := Lib.hid h
    have H' := Lib.hid h'
    clear h h' h1 h1' h2 h2'
    have HE := Lib.hid hlen
    rw [hlen]
    clear hlen
    go_enter Tryz.func14, Tryz.ntmps14
    go_wp2
    go_loopw [5] (fun i wr => ∃ k n : Nat, k ≤ m.length ∧ i = .int .i64 k ∧ Hid (l.take k = m.take k) ∧ wr = w.drewN n) (fun i _ => m.length - (intOf i).toNat)
    case atStart => exact ⟨0, 0, Nat.zero_le _, rfl, (by simp [Hid]), rfl⟩
    case round =>
      obtain ⟨k, n, hk, rfl, hh, rfl⟩ := hrel
      by_cases hlt : k < m.length
      · have hltl : k < l.length := by rw [HE.out]; exact hlt
        obtain ⟨ad, rfl, had⟩ := H.out.at_ k hltl
        obtain ⟨ad', rfl, had'⟩ := H'.out.at_ k hlt
        by_cases he : l[k] = m[k]
        · have he' : (B l[k] != B m[k]) = false := by rw [he]; simp
          have HN := Lib.hid he
          clear he
          go_wp2
          go_quiet (fail)
          go_wp2
          go_roundw
          case rel => exact ⟨k + 1, _, by omega, by go_num, (by unfold Hid; rw [List.take_succ_eq_append_getElem hltl, List.take_succ_eq_append_getElem hlt, hh.out, HN.out]), rfl⟩
          case measure => simp [intOf]; omega
        · have he' : (B l[k] != B m[k]) = true := by rw [bne_iff_ne]; exact fun h => he (B_inj h)
          have hf : decide (l = m) = false := by simp; rintro rfl; exact he rfl
          have HF := Lib.hid hf
          clear he hf
          go_wp2
          go_quiet (fail)
          go_wp2
          go_ret
          exact ⟨by rw [HF.out]; rfl, below_drewN (below_drewN (Below.refl _ _) _) _⟩
      · have hf : decide (l = m) = true := by
          have h0 := hh.out
          rw [List.take_of_length_le (by rw [HE.out]; omega), List.take_of_length_le (by omega)] at h0
          simpa using h0
        have HF := Lib.hid hf
        clear hf
        go_wp2
        go_ret
        exact ⟨by rw [HF.out]; rfl, below_drewN (Below.refl _ _) _⟩
  · have hd : decide (l = m) = false := by simp; rintro rfl; exact hlen rfl
    rw [hd]
    have hn : ((l.length : Int) != (m.length : Int)) = true := by rw [bne_iff_ne]; omega
    clear hd hlen h h'
    go_enter Tryz.func14, Tryz.ntmps14
    go_wp2
    go_ret
    exact ⟨rfl, Below.refl _ _⟩
end Go.Proofs.YtgfnpcmehnjopaaGreatDoor
end
section
namespace Go.Proofs.YtgfnpcmehnjopaaGreatDoor
set_option linter.unusedVariables false
set_option linter.unusedSimpArgs false
def vput (n : Nat) : List UInt8 := if n < 128 then [UInt8.ofNat n] else UInt8.ofNat (n % 128 + 128) :: vput (n / 128)
termination_by n
decreasing_by omega
theorem vput_lt {n : Nat} (h : n < 128) : vput n = [UInt8.ofNat n] := by rw [vput, if_pos h]
theorem vput_ge {n : Nat} (h : 128 ≤ n) : vput n = UInt8.ofNat (n % 128 + 128) :: vput (n / 128) := by rw [vput, if_neg (by omega)]
def vval : List UInt8 → Nat
  | [] => 0
  | b :: t => b.toNat % 128 + 128 * vval t
def vform : List UInt8 → Prop
  | [] => False
  | [b] => b.toNat < 128
  | b :: c :: t => 128 ≤ b.toNat ∧ vform (c :: t)
theorem vform_cons {b : UInt8} {t : List UInt8} (ht : t ≠ []) : vform (b :: t) ↔ 128 ≤ b.toNat ∧ vform t := by
  cases t with
  | nil => exact absurd rfl ht
  | cons c t => exact Iff.rfl
theorem vput_ne (n : Nat) : vput n ≠ [] := by
  rw [vput]; split <;> simp
theorem vput_len_le (k : Nat) : ∀ n, n < 128 ^ (k + 1) → (vput n).length ≤ k + 1 := by
  induction k with
  | zero => intro n h; rw [vput_lt (by simpa using h)]; simp
  | succ k ih =>
    intro n h
    by_cases hn : n < 128
    · rw [vput_lt hn]; simp
    · rw [vput_ge (by omega), List.length_cons]
      have := ih (n / 128) (by rw [Nat.pow_succ] at h; omega)
      omega
theorem vput_len_gt (k : Nat) : ∀ n, 128 ^ k ≤ n → k < (vput n).length := by
  induction k with
  | zero => intro n h; exact List.length_pos_iff.2 (vput_ne n)
  | succ k ih =>
    intro n h
    have h1 : 0 < 128 ^ k := Nat.pow_pos (by omega)
    rw [Nat.pow_succ] at h
    rw [vput_ge (by omega), List.length_cons]
    have := ih (n / 128) (by omega)
    omega
theorem vput_len {n : Nat} (h : n < 18446744073709551616) : (vput n).length ≤ 10 := vput_len_le 9 n (Nat.lt_of_lt_of_le h (by decide))
theorem of_low {n : Nat} (h : n < 256) : (UInt8.ofNat n).toNat = n := by rw [UInt8.toNat_ofNat']; omega
theorem vval_vput : ∀ n, vval (vput n) = n := by
  intro n
  induction n using Nat.strongRecOn with
  | ind n ih =>
    by_cases hn : n < 128
    · rw [vput_lt hn]; simp only [vval]; rw [of_low (by omega)]; omega
    · rw [vput_ge (by omega)]; simp only [vval]; rw [ih (n / 128) (by omega), of_low (by omega)]; omega
theorem vform_vput : ∀ n, vform (vput n) := by
  intro n
  induction n using Nat.strongRecOn with
  | ind n ih =>
    by_cases hn : n < 128
    · rw [vput_lt hn]; show (UInt8.ofNat n).toNat < 128; rw [of_low (by omega)]; omega
    · rw [vput_ge (by omega), vform_cons (vput_ne _), of_low (by omega)]; exact ⟨by omega, ih _ (by omega)⟩
theorem vput_vval : ∀ t, vform t → ((vput (vval t)).length = t.length ↔ vput (vval t) = t)
  | [], h => absurd h (by simp [vform])
  | [b], h => by
    have hb : b.toNat < 128 := h
    have : vval [b] = b.toNat := by simp only [vval]; omega
    rw [this, vput_lt hb]
    simp
  | b :: c :: t, h => by
    obtain ⟨h1, h2⟩ := h
    have ih := vput_vval (c :: t) h2
    have e : vval (b :: c :: t) = b.toNat % 128 + 128 * vval (c :: t) := rfl
    have hb := b.toNat_lt
    by_cases hz : vval (c :: t) = 0
    · rw [e, hz, vput_lt (by omega)]
      simp
    · rw [e, vput_ge (by omega)]
      have e1 : (b.toNat % 128 + 128 * vval (c :: t)) / 128 = vval (c :: t) := by omega
      have e2 : (b.toNat % 128 + 128 * vval (c :: t)) % 128 + 128 = b.toNat := by omega
      rw [e1, e2]
      have e3 : UInt8.ofNat b.toNat = b := UInt8.ofNat_toNat
      rw [e3]
      constructor
      · intro hl
        have : (vput (vval (c :: t))).length = (c :: t).length := by simpa using hl
        rw [ih.1 this]
      · intro hl; rw [hl]
theorem vval_lt : ∀ t : List UInt8, vval t < 128 ^ t.length
  | [] => by simp [vval]
  | b :: t => by
    have := vval_lt t
    simp only [vval, List.length_cons, Nat.pow_succ]
    omega
theorem vval_append : ∀ s t : List UInt8, vval (s ++ t) = vval s + 128 ^ s.length * vval t
  | [], t => by simp [vval]
  | b :: s, t => by
    simp only [List.cons_append, vval, vval_append s t, List.length_cons, Nat.pow_succ]
    rw [Nat.mul_add, ← Nat.mul_assoc, Nat.mul_comm 128 (128 ^ s.length)]
    omega
def scan (l : List UInt8) : Option Nat := (l.take 10).findIdx? (fun b => decide (b.toNat < 128))
theorem scan_some {l : List UInt8} {s : Nat} (h : scan l = some s) : ∃ h : s < l.length, s < 10 ∧ l[s].toNat < 128 ∧ ∀ j (hj : j < s), 128 ≤ l[j].toNat := by
  obtain ⟨h1, h2, h3⟩ := List.findIdx?_eq_some_iff_getElem.1 h
  rw [List.length_take] at h1
  refine ⟨by omega, by omega, by simpa using h2, fun j hj => ?_⟩
  have := h3 j hj
  simp at this
  exact this
theorem scan_none {l : List UInt8} (h : scan l = none) : ∀ j (hj : j < l.length), j < 10 → 128 ≤ l[j].toNat := by
  intro j hj h10
  have h0 := List.findIdx?_eq_none_iff.1 h
  have := h0 l[j] (List.mem_take_iff_getElem.2 ⟨j, by omega, rfl⟩)
  simpa using this
theorem scan_of {l : List UInt8} {s : Nat} (h : s < l.length) (h10 : s < 10) (h1 : l[s].toNat < 128) (h2 : ∀ j (hj : j < s), 128 ≤ l[j].toNat) : scan l = some s := by
  refine List.findIdx?_eq_some_iff_getElem.2 ⟨by rw [List.length_take]; omega, by simpa using h1, fun j hj => ?_⟩
  have := h2 j hj
  simp; exact this
theorem form_of : ∀ (l : List UInt8) (s : Nat) (h : s < l.length), l[s].toNat < 128 → (∀ j (hj : j < s), 128 ≤ l[j].toNat) → vform (l.take (s + 1))
  | [], s, h, _, _ => absurd h (by simp)
  | b :: t, 0, h, h1, _ => by simpa [vform] using h1
  | b :: t, s + 1, h, h1, h2 => by
    have hlt : s < t.length := by simpa using h
    rw [List.take_succ_cons, vform_cons (by intro h0; have := congrArg List.length h0; rw [List.length_take, List.length_nil] at this; omega)]
    exact ⟨h2 0 (by omega), form_of t s hlt (by simpa using h1) fun j hj => by simpa using h2 (j + 1) (by omega)⟩
theorem scan_form : ∀ (t : List UInt8), vform t → ∀ b : List UInt8, ∃ s, t.length = s + 1 ∧ ∃ h : s < (t ++ b).length, (t ++ b)[s].toNat < 128 ∧ ∀ j (hj : j < s), 128 ≤ (t ++ b)[j].toNat
  | [], h, _ => absurd h (by simp [vform])
  | [x], h, b => ⟨0, rfl, by simp, h, fun j hj => absurd hj (by omega)⟩
  | x :: y :: t, h, b => by
    obtain ⟨h1, h2⟩ := h
    obtain ⟨s, e, hs, q1, q2⟩ := scan_form (y :: t) h2 b
    refine ⟨s + 1, by simpa using e, by simpa using hs, by simpa using q1, fun j hj => ?_⟩
    cases j with
    | zero => exact h1
    | succ j => simpa using q2 j (by omega)
def tk (l : List UInt8) : UInt64 × Nat × Int :=
  match scan l with
  | none => if l.length < 10 then (0, 0, 2) else (0, 0, 3)
  | some s => if vput (vval (l.take (s + 1))) = l.take (s + 1) ∧ vval (l.take (s + 1)) < 18446744073709551616 then (UInt64.ofNat (vval (l.take (s + 1))), s + 1, 0) else (0, 0, 3)
theorem tk_none {l : List UInt8} (h : scan l = none) : tk l = if l.length < 10 then (0, 0, 2) else (0, 0, 3) := by unfold tk; rw [h]
theorem tk_some {l : List UInt8} {s : Nat} (h : scan l = some s) : tk l = if vput (vval (l.take (s + 1))) = l.take (s + 1) ∧ vval (l.take (s + 1)) < 18446744073709551616 then (UInt64.ofNat (vval (l.take (s + 1))), s + 1, 0) else (0, 0, 3) := by unfold tk; rw [h]
theorem tk_put (n : UInt64) (b : List UInt8) : tk (vput n.toNat ++ b) = (n, (vput n.toNat).length, 0) := by
  obtain ⟨s, e, hs, q1, q2⟩ := scan_form _ (vform_vput n.toNat) b
  have hl := vput_len n.toNat_lt
  rw [tk_some (scan_of hs (by omega) q1 q2), ← e, List.take_left, vval_vput, if_pos ⟨rfl, n.toNat_lt⟩, UInt64.ofNat_toNat]
theorem tk_nat (n : Nat) (h : n < 18446744073709551616) (b : List UInt8) : tk (vput n ++ b) = (UInt64.ofNat n, (vput n).length, 0) := by
  have := tk_put (UInt64.ofNat n) b
  rwa [UInt64.toNat_ofNat_of_lt' h] at this
theorem tk_ok {l : List UInt8} (h : (tk l).2.2 = 0) : 1 ≤ (tk l).2.1 ∧ (tk l).2.1 ≤ l.length ∧ vput (tk l).1.toNat = l.take (tk l).2.1 := by
  cases hs : scan l with
  | none => rw [tk_none hs] at h; split at h <;> exact absurd h (by decide)
  | some s =>
    rw [tk_some hs] at h ⊢
    obtain ⟨h1, h2, h3, h4⟩ := scan_some hs
    split
    · next hc => exact ⟨Nat.succ_pos _, h1, by show vput (UInt64.ofNat _).toNat = _; rw [UInt64.toNat_ofNat_of_lt' hc.2]; exact hc.1⟩
    · next hc => rw [if_neg hc] at h; exact absurd h (by decide)
def zigF (m : Int) : UInt64 := UInt64.ofNat (if 0 ≤ m then 2 * m else -2 * m - 1).toNat
def zagF (n : UInt64) : Int := if n.toNat % 2 = 0 then (n.toNat / 2 : Nat) else -((n.toNat / 2 : Nat) : Int) - 1
theorem zag_zig (m : Int) (h1 : -9223372036854775808 ≤ m) (h2 : m < 9223372036854775808) : zagF (zigF m) = m := by
  unfold zagF zigF
  by_cases h : 0 ≤ m
  · rw [if_pos h, UInt64.toNat_ofNat_of_lt' (by show _ < 18446744073709551616; omega), if_pos (by omega)]; omega
  · rw [if_neg h, UInt64.toNat_ofNat_of_lt' (by show _ < 18446744073709551616; omega), if_neg (by omega)]; omega
theorem zig_zag (n : UInt64) : zigF (zagF n) = n := by
  have := n.toNat_lt
  apply UInt64.toNat_inj.1
  unfold zagF zigF
  by_cases h : n.toNat % 2 = 0
  · rw [if_pos h, if_pos (by omega), UInt64.toNat_ofNat_of_lt' (by show _ < 18446744073709551616; omega)]; omega
  · rw [if_neg h, if_neg (by omega), UInt64.toNat_ofNat_of_lt' (by show _ < 18446744073709551616; omega)]; omega
end Go.Proofs.YtgfnpcmehnjopaaGreatDoor
end
section
namespace Go.Proofs.YtgfnpcmehnjopaaGreatDoor
open Go.Shelf
set_option linter.unusedVariables false
set_option linter.unusedSimpArgs false
def lays129_ren : Go.Shelf.Ren := ⟨fun | 129 => 70 | n => n, fun | 53 => 55 | 3 => 3 | 4 => 4 | 46 => 73 | 5 => 5 | 9 => 9 | n => n, fun | n => n⟩
theorem lays129 : Go.Proofs.Lays.n129 Tryz.prog lays129_ren := {
  mixed := by kernel_rfl
  f129 := Tryz.func70.trans (congrArg some (by kernel_rfl))
  t3 := Tryz.underlying3
  a3 := Tryz.isAgg3
  z3 := Tryz.sizeOf3
  v3 := Tryz.zeroValue3
  t4 := Tryz.underlying4
  a4 := Tryz.isAgg4
  z4 := Tryz.sizeOf4
  v4 := Tryz.zeroValue4
  t5 := Tryz.underlying5
  a5 := Tryz.isAgg5
  z5 := Tryz.sizeOf5
  v5 := Tryz.zeroValue5
  t9 := Tryz.underlying9
  a9 := Tryz.isAgg9
  z9 := Tryz.sizeOf9
  v9 := Tryz.zeroValue9
  t46 := Tryz.underlying73
  a46 := Tryz.isAgg73
  z46 := Tryz.sizeOf73
  v46 := Tryz.zeroValue73
  t53 := Tryz.underlying55
  a53 := Tryz.isAgg55
  z53 := Tryz.sizeOf55
  v53 := Tryz.zeroValue55 }
theorem bitLenAux_eq (f : Nat) : ∀ x, x < 2 ^ f → ∀ k, (Lib.bitLenAux f x ≤ k ↔ x < 2 ^ k) := by
  induction f with
  | zero => intro x hx k; simp [Lib.bitLenAux]; have : x = 0 := by simpa using hx
            subst this; exact Nat.two_pow_pos k
  | succ f ih =>
    intro x hx k
    simp only [Lib.bitLenAux]
    by_cases h0 : x = 0
    · rw [if_pos h0, h0]; simp [Nat.two_pow_pos k]
    · rw [if_neg h0]
      cases k with
      | zero => simp; omega
      | succ k =>
        have := ih (x / 2) (by rw [Nat.pow_succ] at hx; omega) k
        rw [Nat.pow_succ]
        omega
theorem size_of_bits (n : Nat) (h : n < 18446744073709551616) : max ((Lib.bitLen n + 6) / 7) 1 = (vput n).length := by
  have hb : ∀ k, (Lib.bitLen n ≤ k ↔ n < 2 ^ k) := bitLenAux_eq 64 n h
  have hp := List.length_pos_iff.2 (vput_ne n)
  obtain ⟨k, hk⟩ : ∃ k, (vput n).length = k + 1 := ⟨(vput n).length - 1, by omega⟩
  have e : ∀ j, (128 : Nat) ^ j = 2 ^ (7 * j) := fun j => by rw [Nat.pow_mul]
  have h1 : Lib.bitLen n ≤ 7 * (k + 1) := by
    rw [hb, ← e]
    rcases Nat.lt_or_ge n (128 ^ (k + 1)) with h | h
    · exact h
    · have := vput_len_gt _ _ h; omega
  have h2 : k = 0 ∨ ¬ Lib.bitLen n ≤ 7 * k := by
    rcases Nat.eq_zero_or_pos k with h0 | h0
    · exact .inl h0
    · refine .inr fun hc => ?_
      rw [hb, ← e] at hc
      have := vput_len_le (k - 1) n (by rwa [Nat.sub_add_cancel h0])
      omega
  rw [hk]
  omega
theorem len64_c (n : UInt64) (w : World) : Calls Tryz.prog 70 #[.int .u64 (W n)] w fun e w' => e = .returned (.int .i64 (Lib.bitLen n.toNat)) ∧ w' = w :=
  Any.bits_Len64 lays129 (W n) w (W_lo n) (by have := W_hi n; omega)
end Go.Proofs.YtgfnpcmehnjopaaGreatDoor
end
section
namespace Go.Proofs.YtgfnpcmehnjopaaGreatDoor
open Go.RowKit
set_option linter.unusedVariables false
set_option linter.unusedSimpArgs false
theorem W_div (a : UInt64) : W a / (128 : Int) = W (a / 128) := by
  unfold W; rw [UInt64.toNat_div]; rfl
theorem W_tdiv (a : UInt64) : Int.tdiv (W a) (128 : Int) = W (a / 128) := by
  rw [← W_div]; exact Int.tdiv_eq_ediv_of_nonneg (W_lo a)
def hib (a : UInt64) : UInt8 := UInt8.ofNat (a.toNat % 128 + 128)
def lob (a : UInt64) : UInt8 := UInt8.ofNat a.toNat
theorem W_lob (a : UInt64) : W a % (256 : Int) = B (lob a) := by
  unfold W B lob; rw [UInt8.toNat_ofNat']; omega
set_option maxRecDepth 100000 in
theorem or128 : ∀ b : UInt8, b ||| 128 = UInt8.ofNat (b.toNat % 128 + 128) := by
  intro b
  have h : ∀ k : Fin 256, (UInt8.ofNat k.val) ||| 128 = UInt8.ofNat ((UInt8.ofNat k.val).toNat % 128 + 128) := by decide
  have := h ⟨b.toNat, b.toNat_lt⟩
  simpa using this
theorem B_or128 (a : UInt64) : bits .or .u8 (B (lob a)) 128 = B (hib a) := by
  have h : (128 : Int) = B 128 := rfl
  rw [h]
  unfold B
  rw [u8_or_nat _ _ (UInt8.toNat_lt _) (UInt8.toNat_lt _), ← UInt8.toNat_or, or128]
  congr 3
  unfold lob
  rw [UInt8.toNat_ofNat']; omega
theorem vput_step {a : UInt64} (h : 128 ≤ W a) : vput a.toNat = hib a :: vput (a / 128).toNat := by
  rw [vput_ge (by unfold W at h; omega), UInt64.toNat_div]; rfl
theorem vput_last {a : UInt64} (h : ¬ 128 ≤ W a) : vput a.toNat = [lob a] := vput_lt (by unfold W at h; omega)
theorem W_less {a : UInt64} (h : 128 ≤ W a) : (W (a / 128)).toNat < (W a).toNat := by
  rw [← W_div]; have := W_lo a; omega
attribute [local go_sem] W_div W_tdiv W_lob B_or128
set_option maxRecDepth 100000 in
set_option maxHeartbeats 400000 in
theorem put_c (base : Nat) (v : Value) (l : List UInt8) (n : UInt64) (w : World) (h : Ob w base v l) (hl : l.length ≤ 1000000000) (hb : base ≤ w.heap.size) :
    Calls Tryz.prog 37 #[v, .int .u64 (W n)] w fun e w' => ∃ u, e = .returned u ∧ Ob w' base u (l ++ vput n.toNat) ∧ Below base w w' := by
  have H := Lib.hid h
  have HL := Lib.hid hl
  clear h hl
  go_enter Tryz.func37, Tryz.ntmps37
  go_wp2
  go_loopw [0, 1] (fun u x wr => ∃ (a : UInt64) (d : List UInt8), x = .int .u64 (W a) ∧ Hid (Ob wr base u d) ∧ Hid (d ++ vput a.toNat = l ++ vput n.toNat) ∧ Below base w wr) (fun _ x _ => (intOf x).toNat)
  case atStart => exact ⟨n, l, rfl, H.out, rfl, Below.refl _ _⟩
  case round =>
    obtain ⟨a, d, rfl, HO, HE, hbw⟩ := hrel
    have HD : Hid (d.length ≤ 1000000010) := by
      have h1 := congrArg List.length HE.out
      have h2 := vput_len n.toNat_lt
      have h3 := HL.out
      simp only [List.length_append] at h1
      exact Lib.hid (by omega)
    have HB : Hid (base ≤ wr.heap.size) := Lib.hid (Nat.le_trans hb hbw.size)
    by_cases hc : 128 ≤ W a
    · go_wp2_with (at_builtin; refine wpList_app _ rfl _ _ _ rfl base 5 _ 1 1 Tryz.underlying25 info_u8 rfl (by omega) _ d.length (d.map bv) rfl (own_below HO.out ((Below.refl _ _).alloc (Nat.le_refl _) _)) (.slice (some ⟨wr.heap.size, 0, none⟩) 1 1) 1 ([hib a].map bv) rfl (Sl.new wr _ _ (by simp)) (bvs_one _) (by have := HD.out; omega) (by have := HD.out; simp only [maxLen]; omega) (by have := HB.out; simp; omega) ?_; intro v3 w3 ho3 hg3 hat3)
      go_roundw
      case rel => exact ⟨a / 128, d ++ [hib a], rfl, by simpa [Hid, Ob] using ho3, by unfold Hid; rw [← HE.out, vput_step hc]; simp, (hbw.alloc HB.out _).grown hg3 (by have := HB.out; simp; omega) (own_ge HO.out)⟩
      case measure => exact W_less hc
    · go_wp2_with (at_builtin; refine wpList_app _ rfl _ _ _ rfl base 5 _ 1 1 Tryz.underlying25 info_u8 rfl (by omega) _ d.length (d.map bv) rfl (own_below HO.out ((Below.refl _ _).alloc (Nat.le_refl _) _)) (.slice (some ⟨wr.heap.size, 0, none⟩) 1 1) 1 ([lob a].map bv) rfl (Sl.new wr _ _ (by simp)) (bvs_one _) (by have := HD.out; omega) (by have := HD.out; simp only [maxLen]; omega) (by have := HB.out; simp; omega) ?_; intro v3 w3 ho3 hg3 hat3)
      go_ret
      exact ⟨_, rfl, by rw [← HE.out, vput_last (by omega : ¬ 128 ≤ W a)]; simpa [Ob] using ho3, (hbw.alloc HB.out _).grown hg3 (by have := HB.out; simp; omega) (own_ge HO.out)⟩
theorem Put_c (n : UInt64) (w : World) : Calls Tryz.prog 45 #[.int .u64 (W n)] w (RetB w (vput n.toNat)) := by
  go_enter Tryz.func45, Tryz.ntmps45
  go_wp2_with (go_at_call 37; refine (put_c w.heap.size _ [] n _ (Ob.nil _ _) (by simp) (Nat.le_refl _)).mono ?_; rintro e w1 ⟨u1, rfl, ho1, hb1⟩)
  go_ret
  exact ⟨_, rfl, by simpa using ho1, hb1⟩
theorem W_wrap (a : UInt64) : IntKind.u64.wrap (W a) = W a := by
  have h1 := W_lo a
  have h2 := W_hi a
  simp [IntKind.wrap, IntKind.bits, IntKind.signed]
  omega
attribute [local go_sem] W_wrap
theorem hib_spell (a : UInt64) : (128 : Int) + W a % 128 = B (hib a) := by
  unfold B hib W; rw [UInt8.toNat_ofNat']; omega
theorem lob_spell {a : UInt64} (h : ¬ 128 ≤ W a) : W a = B (lob a) := by
  rw [← W_lob]; have := W_lo a; omega
set_option maxRecDepth 100000 in
set_option maxHeartbeats 400000 in
theorem rput_c (n : UInt64) (w : World) : Calls Tryz.prog 21 #[.int .u64 (W n)] w (RetB w (vput n.toNat)) := by
  go_enter Tryz.func21, Tryz.ntmps21
  go_wp2
  go_loopw [0, 3] (fun x u wr => ∃ (a : UInt64) (d : List UInt8), x = .int .u64 (W a) ∧ Hid (Ob wr w.heap.size u d) ∧ Hid (d ++ vput a.toNat = vput n.toNat) ∧ Below w.heap.size w wr) (fun x _ _ => (intOf x).toNat)
  case atStart => exact ⟨n, [], rfl, by simpa [Hid, Ob] using own_new w #[] _ 0 1 _ (Nat.le_refl _) rfl (by omega), rfl, (Below.refl _ _).alloc (Nat.le_refl _) _⟩
  case round =>
    obtain ⟨a, d, rfl, HO, HE, hbw⟩ := hrel
    have HD : Hid (d.length ≤ 1000000010) := by
      have h1 := congrArg List.length HE.out
      have h2 := vput_len n.toNat_lt
      simp only [List.length_append] at h1
      exact Lib.hid (by omega)
    have HB : Hid (w.heap.size ≤ wr.heap.size) := Lib.hid hbw.size
    have hlo := W_lo a
    by_cases hc : 128 ≤ W a
    · go_wp2_with (at_builtin; refine wpList_app _ rfl _ _ _ rfl w.heap.size 5 _ 1 1 Tryz.underlying25 info_u8 rfl (by omega) _ d.length (d.map bv) rfl (own_below HO.out ((Below.refl _ _).alloc (Nat.le_refl _) _)) (.slice (some ⟨wr.heap.size, 0, none⟩) 1 1) 1 [.int .u8 (128 + W a % 128)] rfl (Sl.new wr _ _ (by simp)) (by intro u hu; rw [List.mem_singleton.1 hu]; rfl) (by have := HD.out; omega) (by have := HD.out; simp only [maxLen]; omega) (by have := HB.out; simp; omega) ?_; intro v3 w3 ho3 hg3 hat3)
      go_roundw
      case rel => exact ⟨a / 128, d ++ [hib a], rfl, by simpa [Hid, Ob, bv, ← hib_spell] using ho3, by unfold Hid; rw [← HE.out, vput_step hc]; simp, (hbw.alloc HB.out _).grown hg3 (by have := HB.out; simp; omega) (own_ge HO.out)⟩
      case measure => exact W_less hc
    · go_wp2_with (at_builtin; refine wpList_app _ rfl _ _ _ rfl w.heap.size 5 _ 1 1 Tryz.underlying25 info_u8 rfl (by omega) _ d.length (d.map bv) rfl (own_below HO.out ((Below.refl _ _).alloc (Nat.le_refl _) _)) (.slice (some ⟨wr.heap.size, 0, none⟩) 1 1) 1 [.int .u8 (W a)] rfl (Sl.new wr _ _ (by simp)) (by intro u hu; rw [List.mem_singleton.1 hu]; rfl) (by have := HD.out; omega) (by have := HD.out; simp only [maxLen]; omega) (by have := HB.out; simp; omega) ?_; intro v3 w3 ho3 hg3 hat3)
      go_ret
      exact ⟨_, rfl, by rw [← HE.out, vput_last (by omega : ¬ 128 ≤ W a)]; simpa [Ob, bv, ← lob_spell (by omega : ¬ 128 ≤ W a)] using ho3, (hbw.alloc HB.out _).grown hg3 (by have := HB.out; simp; omega) (own_ge HO.out)⟩
theorem size_c (n : UInt64) (w : World) : Calls Tryz.prog 53 #[.int .u64 (W n)] w (RetV w (.int .i64 ((vput n.toNat).length : Int))) := by
  have hs := size_of_bits n.toNat n.toNat_lt
  have hbl : Lib.bitLen n.toNat ≤ 64 := (bitLenAux_eq 64 _ n.toNat_lt 64).2 n.toNat_lt
  obtain ⟨k, hk⟩ : ∃ k, Lib.bitLen n.toNat = k := ⟨_, rfl⟩
  rw [hk] at hs hbl
  rw [← hs]
  have HK := Lib.hid hk
  clear hs hk
  go_enter Tryz.func53, Tryz.ntmps53
  go_wp2_with (go_at_call 70; refine (len64_c n _).mono ?_; rintro e w1 ⟨rfl, rfl⟩; rw [HK.out])
  go_ret
  exact ⟨by show Ending.returned (Value.int .i64 _) = _; congr 2; omega, Below.refl _ _⟩
end Go.Proofs.YtgfnpcmehnjopaaGreatDoor
end
section
namespace Go.Proofs.YtgfnpcmehnjopaaGreatDoor
section
open Go.RowKit
set_option linter.unusedVariables false
set_option linter.unusedSimpArgs false
theorem xor_u64_0 (a : Nat) (h : a < 18446744073709551616) : bits .xor .u64 (a : Int) 0 = a := by
  rw [show (0 : Int) = ((0 : Nat) : Int) from rfl, u64_xor_nat a 0 h (by decide), Nat.xor_zero]
theorem xor_u64_1 (a : Nat) (h : a < 18446744073709551616) : bits .xor .u64 (a : Int) 18446744073709551615 = 18446744073709551615 - a := by
  have e : (18446744073709551615 : Int) = ((18446744073709551615 : Nat) : Int) := rfl
  show IntKind.u64.wrap ((BitVec.ofInt 64 (a : Int) ^^^ BitVec.ofInt 64 18446744073709551615).toNat : Int) = _
  rw [show BitVec.ofInt 64 18446744073709551615 = BitVec.allOnes 64 from by decide, BitVec.xor_allOnes, BitVec.toNat_not, ofInt_u64 a h, IntKind.wrap_u64]
  omega
theorem xor_i64_0 (a : Nat) (h : a < 9223372036854775808) : bits .xor .i64 (a : Int) 0 = a := by
  show IntKind.i64.wrap ((BitVec.ofInt 64 (a : Int) ^^^ BitVec.ofInt 64 0).toNat : Int) = _
  rw [show BitVec.ofInt 64 0 = 0#64 from by decide, BitVec.xor_zero, ofInt_u64 a (by omega), IntKind.wrap_i64]
  omega
theorem xor_i64_1 (a : Nat) (h : a < 9223372036854775808) : bits .xor .i64 (a : Int) (-1) = -1 - a := by
  show IntKind.i64.wrap ((BitVec.ofInt 64 (a : Int) ^^^ BitVec.ofInt 64 (-1)).toNat : Int) = _
  rw [show BitVec.ofInt 64 (-1) = BitVec.allOnes 64 from by decide, BitVec.xor_allOnes, BitVec.toNat_not, ofInt_u64 a (by omega), IntKind.wrap_i64]
  omega
theorem and_u64_1 (a : Nat) (h : a < 18446744073709551616) : bits .and .u64 (a : Int) 1 = ((a % 2 : Nat) : Int) := by
  rw [show (1 : Int) = ((1 : Nat) : Int) from rfl, u64_and_nat a 1 h (by decide), Nat.and_one_is_mod]
theorem zig_pos {m : Int} (h : 0 ≤ m) (h2 : m < 9223372036854775808) : W (zigF m) = 2 * m := by
  unfold W zigF; rw [if_pos h, UInt64.toNat_ofNat_of_lt' (by show _ < 18446744073709551616; omega)]; omega
theorem zig_neg {m : Int} (h : ¬ 0 ≤ m) (h1 : -9223372036854775808 ≤ m) : W (zigF m) = -2 * m - 1 := by
  unfold W zigF; rw [if_neg h, UInt64.toNat_ofNat_of_lt' (by show _ < 18446744073709551616; omega)]; omega
theorem zig_c (m : Int) (h1 : -9223372036854775808 ≤ m) (h2 : m < 9223372036854775808) (w : World) :
    Calls Tryz.prog 99 #[.int .i64 m] w (RetV w (.int .u64 (W (zigF m)))) := by
  by_cases h : 0 ≤ m
  · have hz := zig_pos h h2
    rw [hz]
    clear hz
    go_enter Tryz.func99, Tryz.ntmps99
    go_wp2
    go_ret
    refine ⟨?_, Below.refl _ _⟩
    show Ending.returned (Value.int .u64 (bits BinOp.xor IntKind.u64 (m * 2) (m / 9223372036854775808))) = _
    obtain ⟨k, rfl⟩ := Int.eq_ofNat_of_zero_le h
    have e1 : (k : Int) / 9223372036854775808 = 0 := by omega
    have e2 : (k : Int) * 2 = ((k * 2 : Nat) : Int) := by omega
    rw [e1, e2, xor_u64_0 _ (by omega)]
    congr 2; omega
  · have hz := zig_neg h h1
    rw [hz]
    clear hz
    go_enter Tryz.func99, Tryz.ntmps99
    go_wp2
    go_ret
    refine ⟨?_, Below.refl _ _⟩
    show Ending.returned (Value.int .u64 (bits BinOp.xor IntKind.u64 (IntKind.u64.wrap (IntKind.u64.wrap m * 2)) (IntKind.u64.wrap (m / 9223372036854775808)))) = _
    have e1 : IntKind.u64.wrap (m / 9223372036854775808) = 18446744073709551615 := by rw [IntKind.wrap_u64]; omega
    obtain ⟨k, hk⟩ : ∃ k : Nat, (k : Int) = 2 * m + 18446744073709551616 := ⟨(2 * m + 18446744073709551616).toNat, by omega⟩
    have e2 : IntKind.u64.wrap (IntKind.u64.wrap m * 2) = (k : Int) := by rw [IntKind.wrap_u64, IntKind.wrap_u64]; omega
    rw [e1, e2, xor_u64_1 _ (by omega)]
    congr 2; omega
theorem rzig_c (m : Int) (h1 : -9223372036854775808 ≤ m) (h2 : m < 9223372036854775808) (w : World) :
    Calls Tryz.prog 84 #[.int .i64 m] w (RetV w (.int .u64 (W (zigF m)))) := by
  by_cases h : 0 ≤ m
  · have hz := zig_pos h h2
    rw [hz]
    clear hz
    go_enter Tryz.func84, Tryz.ntmps84
    go_wp2
    go_ret
    exact ⟨rfl, Below.refl _ _⟩
  · have hz := zig_neg h h1
    rw [hz]
    clear hz
    go_enter Tryz.func84, Tryz.ntmps84
    go_wp2
    go_ret
    exact ⟨by show Ending.returned (Value.int .u64 (2 * -(m + 1) + 1)) = _; congr 2; omega, Below.refl _ _⟩
theorem zag_c (n : UInt64) (w : World) :
    Calls Tryz.prog 101 #[.int .u64 (W n)] w (RetV w (.int .i64 (zagF n))) := by
  have hn := n.toNat_lt
  have h1 := W_lo n
  have h2 := W_hi n
  obtain ⟨x, hx⟩ : ∃ x : Int, W n = x := ⟨_, rfl⟩
  have HX := Lib.hid hx
  have HN := Lib.hid hn
  rw [hx] at h1 h2 ⊢
  clear hx hn
  go_enter Tryz.func101, Tryz.ntmps101
  go_wp2
  go_ret
  have hx := HX.out
  have hn := HN.out
  subst hx
  refine ⟨?_, Below.refl _ _⟩
  show Ending.returned (Value.int .i64 (bits BinOp.xor IntKind.i64 (W n / 2) (wrap64 (-wrap64 (bits BinOp.and IntKind.u64 (W n) 1))))) = _
  unfold W zagF
  generalize n.toNat = k at *
  have e : (k : Int) / 2 = ((k / 2 : Nat) : Int) := by omega
  rw [and_u64_1 k (by omega), e]
  by_cases h : k % 2 = 0
  · have e1 : wrap64 (-wrap64 (((k % 2 : Nat) : Int))) = 0 := by unfold wrap64; omega
    rw [e1, xor_i64_0 _ (by omega), if_pos h]
  · have e1 : wrap64 (-wrap64 (((k % 2 : Nat) : Int))) = -1 := by unfold wrap64; omega
    rw [e1, xor_i64_1 _ (by omega), if_neg h]
    congr 2; omega
theorem rzag_c (n : UInt64) (w : World) :
    Calls Tryz.prog 98 #[.int .u64 (W n)] w (RetV w (.int .i64 (zagF n))) := by
  have hn := n.toNat_lt
  have h1 := W_lo n
  have h2 := W_hi n
  obtain ⟨x, hx⟩ : ∃ x : Int, W n = x := ⟨_, rfl⟩
  have HX := Lib.hid hx
  have HN := Lib.hid hn
  rw [hx] at h1 h2 ⊢
  by_cases h : x % 2 = 0
  · have h0 : zagF n = x / 2 := by rw [← hx]; unfold zagF W at *; rw [if_pos (by omega)]; omega
    rw [h0]
    clear h0 hx hn
    go_enter Tryz.func98, Tryz.ntmps98
    go_wp2
    go_ret
    exact ⟨rfl, Below.refl _ _⟩
  · have h0 : zagF n = -(x / 2) - 1 := by rw [← hx]; unfold zagF W at *; rw [if_neg (by omega)]; omega
    rw [h0]
    clear h0 hx hn
    go_enter Tryz.func98, Tryz.ntmps98
    go_wp2
    go_ret
    exact ⟨rfl, Below.refl _ _⟩
end
section
open Go.RowKit
set_option linter.unusedVariables false
set_option linter.unusedSimpArgs false
def tkV (t : UInt64 × Nat × Int) : Value := .tuple #[.int .u64 (W t.1), .int .i64 (t.2.1 : Int), .int .i64 t.2.2]
def joinF (a : UInt64) (c : UInt8) (k : Nat) : UInt64 := a ||| UInt64.ofNat (c.toNat % 128 * 2 ^ (7 * k))
theorem W_join (a : UInt64) (c : UInt8) (k : Nat) : bits .or .u64 (W a) (IntKind.u64.wrap (IntKind.u64.wrap (bits .and .u8 (B c) 127) * 2 ^ (7 * k))) = W (joinF a c k) := by
  have e1 : bits .and .u8 (B c) 127 = ((c.toNat % 128 : Nat) : Int) := by
    unfold B
    rw [show (127 : Int) = ((127 : Nat) : Int) from rfl, u8_and_nat _ 127 c.toNat_lt (by decide)]
    rw [show (127 : Nat) = 2 ^ 7 - 1 from rfl, Nat.and_two_pow_sub_one_eq_mod]
  have e2 : IntKind.u64.wrap ((c.toNat % 128 : Nat) : Int) = ((c.toNat % 128 : Nat) : Int) := by rw [IntKind.wrap_u64]; omega
  have e3 : ∀ x : Nat, IntKind.u64.wrap ((x : Int) * 2 ^ (7 * k)) = ((x * 2 ^ (7 * k) % 18446744073709551616 : Nat) : Int) := by
    intro x
    rw [IntKind.wrap_u64, Int.natCast_emod, Int.natCast_mul, Int.natCast_pow]
    rfl
  rw [e1, e2, e3]
  unfold W joinF
  rw [u64_or_nat _ _ a.toNat_lt (Nat.mod_lt _ (by decide)), UInt64.toNat_or, UInt64.toNat_ofNat']
theorem join_val {a : UInt64} {l : List UInt8} {k : Nat} (h : k < l.length) (ha : a.toNat = vval (l.take k)) (hk : k < 9 ∨ k = 9 ∧ l[k].toNat ≤ 1) : (joinF a l[k] k).toNat = vval (l.take (k + 1)) := by
  have hlt : vval (l.take k) < 2 ^ (7 * k) := by
    have := vval_lt (l.take k)
    rw [List.length_take, Nat.min_eq_left (by omega)] at this
    rw [Nat.pow_mul]; exact this
  have hx : l[k].toNat % 128 * 2 ^ (7 * k) < 2 ^ 64 := by
    rcases hk with hk | ⟨rfl, hk⟩
    · have h1 : 2 ^ (7 * k) ≤ 2 ^ 56 := Nat.pow_le_pow_right (by decide) (by omega)
      have h2 : l[k].toNat % 128 ≤ 127 := by omega
      exact Nat.lt_of_le_of_lt (Nat.mul_le_mul h2 h1) (by decide)
    · have h2 : l[9].toNat % 128 ≤ 1 := by omega
      exact Nat.lt_of_le_of_lt (Nat.mul_le_mul h2 (Nat.le_refl _)) (by decide)
  rw [List.take_succ_eq_append_getElem h, vval_append, List.length_take, Nat.min_eq_left (by omega)]
  unfold joinF
  rw [UInt64.toNat_or, UInt64.toNat_ofNat', Nat.mod_eq_of_lt hx, ha, Nat.or_comm, Nat.mul_comm (l[k].toNat % 128), ← Nat.two_pow_add_eq_or_of_lt hlt]
  have e : (128 : Nat) ^ k = 2 ^ (7 * k) := by rw [Nat.pow_mul]
  rw [e]
  simp only [vval, Nat.mul_zero, Nat.add_zero]
  omega
theorem big_val {l : List UInt8} (h : 9 < l.length) (hb : 1 < l[9].toNat) (h8 : l[9].toNat < 128) : 18446744073709551616 ≤ vval (l.take (9 + 1)) := by
  rw [List.take_succ_eq_append_getElem h, vval_append, List.length_take, Nat.min_eq_left (by omega)]
  simp only [vval]
  have : 2 ≤ l[9].toNat % 128 := by omega
  have e : (128 : Nat) ^ 9 = 9223372036854775808 := by decide
  rw [e]
  omega
attribute [local go_sem] W_join
theorem tk_big {l : List UInt8} {s : Nat} (hs : scan l = some s) (h : s < l.length) (hb : s = 9 ∧ 1 < l[s].toNat) : tkV (tk l) = .tuple #[.int .u64 0, .int .i64 0, .int .i64 3] := by
  obtain ⟨h1, h2, h3, h4⟩ := scan_some hs
  obtain ⟨rfl, hb⟩ := hb
  rw [tk_some hs, if_neg]
  · rfl
  · rintro ⟨_, h⟩
    have := big_val h1 hb h3
    omega
theorem tk_yes {l : List UInt8} {s : Nat} (hs : scan l = some s) {a : UInt64} (ha : a.toNat = vval (l.take (s + 1))) (hq : (vput a.toNat).length = s + 1) : tkV (tk l) = .tuple #[.int .u64 (W a), .int .i64 ((s : Int) + 1), .int .i64 0] := by
  obtain ⟨h1, h2, h3, h4⟩ := scan_some hs
  have hl : (l.take (s + 1)).length = s + 1 := by rw [List.length_take]; omega
  rw [tk_some hs, if_pos ⟨(vput_vval _ (form_of l s h1 h3 h4)).1 (by rw [← ha, hq, hl]), by rw [← ha]; exact a.toNat_lt⟩, ← ha, UInt64.ofNat_toNat]
  rfl
theorem tk_not {l : List UInt8} {s : Nat} (hs : scan l = some s) {a : UInt64} (ha : a.toNat = vval (l.take (s + 1))) (hq : ¬ (vput a.toNat).length = s + 1) : tkV (tk l) = .tuple #[.int .u64 0, .int .i64 0, .int .i64 3] := by
  obtain ⟨h1, h2, h3, h4⟩ := scan_some hs
  have hl : (l.take (s + 1)).length = s + 1 := by rw [List.length_take]; omega
  rw [tk_some hs, if_neg]
  · rfl
  · rintro ⟨h, _⟩
    exact hq (by rw [ha, h, hl])
set_option maxRecDepth 100000 in
set_option maxHeartbeats 400000 in
theorem take_c (v : Value) (l : List UInt8) (w : World) (h : Sb w v l) (hl : l.length ≤ 1000000000) :
    Calls Tryz.prog 24 #[v] w (RetV w (tkV (tk l))) := by
  obtain ⟨A, c, rfl, h1, h2⟩ := h.form
  have H := Lib.hid h
  clear h
  cases hs : scan l with
  | none =>
    rw [tk_none hs]
    have HN := Lib.hid (scan_none hs)
    clear hs
    by_cases hten : l.length < 10
    · rw [if_pos hten]
      show Calls _ _ _ _ (RetV w (.tuple #[.int .u64 0, .int .i64 0, .int .i64 2]))
      go_enter Tryz.func24, Tryz.ntmps24
      go_wp2; go_step3; go_wp2; go_step3; go_wp2
      go_loopg [5, 6, 11] (l.length) (fun g n z i wr => ∃ k : Nat, g + k = l.length ∧ z = .int .i64 0 ∧ i = .int .i64 k ∧ (∃ a : UInt64, n = .int .u64 (W a)) ∧ wr = w)
      case atStart => exact ⟨0, rfl, rfl, rfl, ⟨0, rfl⟩, rfl⟩
      case round =>
        obtain ⟨k, hk, rfl, rfl, ⟨a, rfl⟩, rfl⟩ := hrel
        by_cases hlt : k < l.length
        · obtain ⟨ad, rfl, had⟩ := H.out.at_ k hlt
          have hb : 128 ≤ B l[k] := by have := HN.out k hlt (by omega); unfold B; omega
          have hb2 := B_hi l[k]
          have hk9 : k < 9 := by omega
          go_wp2
          go_roundg (gk - 1)
          case measure => omega
          case rel => exact ⟨k + 1, by omega, rfl, by go_num, ⟨_, rfl⟩, rfl⟩
        · go_wp2
          rw [Exit.noGoto_ret]
          go_ret3
          exact ⟨rfl, Below.refl _ _⟩
    · rw [if_neg hten]
      show Calls _ _ _ _ (RetV w (.tuple #[.int .u64 0, .int .i64 0, .int .i64 3]))
      go_enter Tryz.func24, Tryz.ntmps24
      go_wp2; go_step3; go_wp2; go_step3; go_wp2
      go_loopg [5, 6, 11] (10) (fun g n z i wr => ∃ k : Nat, g + k = 10 ∧ 1 ≤ g ∧ z = .int .i64 0 ∧ i = .int .i64 k ∧ (∃ a : UInt64, n = .int .u64 (W a)) ∧ wr = w)
      case atStart => exact ⟨0, rfl, by decide, rfl, rfl, ⟨0, rfl⟩, rfl⟩
      case round =>
        obtain ⟨k, hk, hg, rfl, rfl, ⟨a, rfl⟩, rfl⟩ := hrel
        have hlt : k < l.length := by omega
        obtain ⟨ad, rfl, had⟩ := H.out.at_ k hlt
        have hb : 128 ≤ B l[k] := by have := HN.out k hlt (by omega); unfold B; omega
        have hb2 := B_hi l[k]
        by_cases hk9 : k < 9
        · go_wp2
          go_roundg (gk - 1)
          case measure => omega
          case rel => exact ⟨k + 1, by omega, by omega, rfl, by go_num, ⟨_, rfl⟩, rfl⟩
        · have hk' : k ≤ 9 := by omega
          have hq : ((k : Int) == 9) = true := by rw [beq_iff_eq]; omega
          go_wp2
          rw [Exit.noGoto_ret]
          go_ret3
          exact ⟨rfl, Below.refl _ _⟩
  | some s =>
    obtain ⟨g1, g2, g3, g4⟩ := scan_some hs
    have HS := Lib.hid hs
    have G4 := Lib.hid g4
    clear hs g4
    obtain ⟨V, hV⟩ : ∃ V, tkV (tk l) = V := ⟨_, rfl⟩
    have HV := Lib.hid hV
    rw [hV]
    clear hV
    go_enter Tryz.func24, Tryz.ntmps24
    go_wp2; go_step3; go_wp2; go_step3; go_wp2
    go_loopg [5, 6, 11] (s) (fun g n z i wr => ∃ k : Nat, g + k = s ∧ z = .int .i64 0 ∧ i = .int .i64 k ∧ (∃ a : UInt64, n = .int .u64 (W a) ∧ Hid (a.toNat = vval (l.take k))) ∧ wr = w)
    case atStart => exact ⟨0, rfl, rfl, rfl, ⟨0, rfl, rfl⟩, rfl⟩
    case round =>
      obtain ⟨k, hk, rfl, rfl, ⟨a, rfl, Ha⟩, rfl⟩ := hrel
      have hlt : k < l.length := by omega
      obtain ⟨ad, rfl, had⟩ := H.out.at_ k hlt
      have hb2 := B_hi l[k]
      by_cases hks : k < s
      · have hb : 128 ≤ B l[k] := by have := G4.out k hks; unfold B; omega
        have hk9 : k < 9 := by omega
        go_wp2
        go_roundg (gk - 1)
        case measure => omega
        case rel => exact ⟨k + 1, by omega, rfl, by go_num, ⟨_, rfl, join_val hlt Ha.out (.inl hk9)⟩, rfl⟩
      · have hk' : k = s := by omega
        subst hk'
        have hb : B l[k] < 128 := by unfold B; omega
        have hb0 := B_lo l[k]
        by_cases hbig : k = 9 ∧ 1 < l[k].toNat
        · have hval := tk_big HS.out hlt hbig
          rw [HV.out] at hval
          have HVal := Lib.hid hval
          clear hval
          obtain ⟨hk', hb1⟩ := hbig
          have hb3 : 1 < B l[k] := by unfold B; omega
          have hq : ((k : Int) == 9) = true := by rw [beq_iff_eq]; omega
          clear g3 hb1 hk'
          go_wp2
          rw [Exit.noGoto_ret]
          go_ret3
          exact ⟨by rw [HVal.out]; rfl, Below.refl _ _⟩
        · have hj : (joinF a l[k] k).toNat = vval (l.take (k + 1)) := join_val hlt Ha.out (by omega)
          have HJ := Lib.hid hj
          clear hj
          obtain ⟨m, hm⟩ : ∃ m, (vput (joinF a l[k] k).toNat).length = m := ⟨_, rfl⟩
          have HM := Lib.hid hm
          have hm10 : m ≤ 10 := by rw [← hm]; exact vput_len (UInt64.toNat_lt _)
          have hmz : m = k + 1 → V = .tuple #[.int .u64 (W (joinF a l[k] k)), .int .i64 ((k : Int) + 1), .int .i64 0] := fun h => by
            rw [← HV.out]; exact tk_yes HS.out HJ.out (by rw [hm, h])
          have hmn : ¬ m = k + 1 → V = .tuple #[.int .u64 0, .int .i64 0, .int .i64 3] := fun h => by
            rw [← HV.out]; exact tk_not HS.out HJ.out (by rw [hm]; exact h)
          have HY := Lib.hid hmz
          have HZ := Lib.hid hmn
          clear hm hmz hmn g3
          by_cases h9 : k = 9
          · have hq : ((k : Int) == 9) = true := by rw [beq_iff_eq]; omega
            have hb3 : ¬ 1 < B l[k] := by unfold B; omega
            clear hbig
            by_cases hmk : m = k + 1
            · have hv : ((k : Int) + 1 != (m : Int)) = false := by rw [bne_eq_false_iff_eq]; omega
              have HMK := Lib.hid hmk
              clear hmk h9
              go_wp2_with (go_at_call 53; refine (size_c _ _).mono ?_; rintro e w1 ⟨rfl, hb1⟩; rw [HM.out])
              rw [Exit.noGoto_ret]
              go_ret3
              exact ⟨by rw [HY.out HMK.out]; rfl, hb1⟩
            · have hv : ((k : Int) + 1 != (m : Int)) = true := by rw [bne_iff_ne]; omega
              have HMK := Lib.hid hmk
              clear hmk h9
              go_wp2_with (go_at_call 53; refine (size_c _ _).mono ?_; rintro e w1 ⟨rfl, hb1⟩; rw [HM.out])
              rw [Exit.noGoto_ret]
              go_ret3
              exact ⟨by rw [HZ.out HMK.out]; rfl, hb1⟩
          · have hq : ((k : Int) == 9) = false := by rw [beq_eq_false_iff_ne]; omega
            have hk9 : k < 9 := by omega
            clear hbig
            by_cases hmk : m = k + 1
            · have hv : ((k : Int) + 1 != (m : Int)) = false := by rw [bne_eq_false_iff_eq]; omega
              have HMK := Lib.hid hmk
              clear hmk h9
              go_wp2_with (go_at_call 53; refine (size_c _ _).mono ?_; rintro e w1 ⟨rfl, hb1⟩; rw [HM.out])
              rw [Exit.noGoto_ret]
              go_ret3
              exact ⟨by rw [HY.out HMK.out]; rfl, hb1⟩
            · have hv : ((k : Int) + 1 != (m : Int)) = true := by rw [bne_iff_ne]; omega
              have HMK := Lib.hid hmk
              clear hmk h9
              go_wp2_with (go_at_call 53; refine (size_c _ _).mono ?_; rintro e w1 ⟨rfl, hb1⟩; rw [HM.out])
              rw [Exit.noGoto_ret]
              go_ret3
              exact ⟨by rw [HZ.out HMK.out]; rfl, hb1⟩
end
end Go.Proofs.YtgfnpcmehnjopaaGreatDoor
end
section
namespace Go.Proofs.YtgfnpcmehnjopaaGreatDoor
section
open Go.RowKit
set_option linter.unusedVariables false
set_option linter.unusedSimpArgs false
attribute [local go_sem] Gv
def horn (a : UInt64) (c : UInt8) : UInt64 := a * 128 + UInt64.ofNat (c.toNat % 128)
theorem horn_val (a : UInt64) (c : UInt8) (t : List UInt8) (h : a = UInt64.ofNat (vval t)) : horn a c = UInt64.ofNat (vval (c :: t)) := by
  subst h
  apply UInt64.toNat_inj.1
  unfold horn
  simp only [vval, UInt64.toNat_add, UInt64.toNat_mul, UInt64.toNat_ofNat']
  show ((vval t % 18446744073709551616) * 128 % 18446744073709551616 + (c.toNat % 128) % 18446744073709551616) % 18446744073709551616 = _ % 18446744073709551616
  omega
theorem W_horn (a : UInt64) (c : UInt8) : IntKind.u64.wrap (IntKind.u64.wrap (W a * 128) + B c % 128) = W (horn a c) := by
  rw [IntKind.wrap_u64, IntKind.wrap_u64]
  unfold W B horn
  simp only [UInt64.toNat_add, UInt64.toNat_mul, UInt64.toNat_ofNat']
  show _ = ((((a.toNat * 128 % 18446744073709551616 + (c.toNat % 128) % 18446744073709551616) % 18446744073709551616 : Nat)) : Int)
  omega
attribute [local go_sem] W_horn
theorem tk_eq {l : List UInt8} {s : Nat} (hs : scan l = some s) {a : UInt64} (ha : a = UInt64.ofNat (vval (l.take (s + 1)))) (hq : vput a.toNat = l.take (s + 1)) : tkV (tk l) = .tuple #[.int .u64 (W a), .int .i64 ((s : Int) + 1), .int .i64 0] := by
  have e : vval (l.take (s + 1)) = a.toNat := by rw [← hq, vval_vput]
  rw [tk_some hs, if_pos ⟨by rw [e]; exact hq, by rw [e]; exact a.toNat_lt⟩, ← ha]
  rfl
theorem tk_ne {l : List UInt8} {s : Nat} (hs : scan l = some s) {a : UInt64} (ha : a = UInt64.ofNat (vval (l.take (s + 1)))) (hq : ¬ vput a.toNat = l.take (s + 1)) : tkV (tk l) = .tuple #[.int .u64 0, .int .i64 0, .int .i64 3] := by
  rw [tk_some hs, if_neg]
  · rfl
  · rintro ⟨h, h64⟩
    exact hq (by rw [ha, UInt64.toNat_ofNat_of_lt' h64, h])
set_option maxRecDepth 100000 in
set_option maxHeartbeats 400000 in
theorem rtake_c (v : Value) (l : List UInt8) (w : World) (h : Sb w v l) (hl : l.length ≤ 1000000000) :
    Calls Tryz.prog 26 #[v] w (RetV w (tkV (tk l))) := by
  obtain ⟨A, c, rfl, h1, h2⟩ := h.form
  have H := Lib.hid h
  clear h
  cases hs : scan l with
  | none =>
    rw [tk_none hs]
    have HN := Lib.hid (scan_none hs)
    clear hs
    obtain ⟨V, hV⟩ : ∃ V, tkV (if l.length < 10 then (0, 0, 2) else (0, 0, 3)) = V := ⟨_, rfl⟩
    have HV := Lib.hid hV
    rw [hV]
    clear hV
    go_enter Tryz.func26, Tryz.ntmps26
    go_wp2
    go_loopg [5, 6] (11) (fun g z i wr => ∃ k : Nat, g + k = 11 ∧ 1 ≤ g ∧ z = .int .i64 0 ∧ i = .int .i64 k ∧ wr = w)
    case atStart => exact ⟨0, rfl, by decide, rfl, rfl, rfl⟩
    case round =>
      obtain ⟨k, hk, hg, rfl, rfl, rfl⟩ := hrel
      by_cases hlt : k < l.length
      · by_cases h10 : k < 10
        · obtain ⟨ad, rfl, had⟩ := H.out.at_ k hlt
          have hb : 128 ≤ B l[k] := by have := HN.out k hlt (by omega); unfold B; omega
          go_wp2
          go_roundg (gk - 1)
          case measure => omega
          case rel => exact ⟨k + 1, by omega, by omega, rfl, by go_num, rfl⟩
        · have h10' : ¬ l.length < 10 := by omega
          go_wp2
          go_ret3
          exact ⟨by rw [← HV.out, if_neg h10']; rfl, Below.refl _ _⟩
      · by_cases h10' : l.length < 10
        · go_wp2
          go_ret3
          exact ⟨by rw [← HV.out, if_pos h10']; rfl, Below.refl _ _⟩
        · go_wp2
          go_ret3
          exact ⟨by rw [← HV.out, if_neg h10']; rfl, Below.refl _ _⟩
  | some s =>
    obtain ⟨g1, g2, g3, g4⟩ := scan_some hs
    have HS := Lib.hid hs
    have G4 := Lib.hid g4
    clear hs g4
    obtain ⟨V, hV⟩ : ∃ V, tkV (tk l) = V := ⟨_, rfl⟩
    have HV := Lib.hid hV
    rw [hV]
    clear hV
    go_enter Tryz.func26, Tryz.ntmps26
    go_wp2
    go_loopg [5, 6] (s + 1) (fun g z i wr => ∃ k : Nat, g + k = s + 1 ∧ ((1 ≤ g ∧ z = .int .i64 0) ∨ (g = 0 ∧ z = .int .i64 ((s + 1 : Nat) : Int))) ∧ i = .int .i64 k ∧ wr = w)
    case atStart => exact ⟨0, rfl, .inl ⟨by omega, rfl⟩, rfl, rfl⟩
    case round =>
      obtain ⟨k, hk, hz, rfl, rfl⟩ := hrel
      rcases hz with ⟨hg, rfl⟩ | ⟨hg, rfl⟩
      · have hlt : k < l.length := by omega
        have h10 : k < 10 := by omega
        obtain ⟨ad, rfl, had⟩ := H.out.at_ k hlt
        by_cases hks : k < s
        · have hb : 128 ≤ B l[k] := by have := G4.out k hks; unfold B; omega
          go_wp2
          go_roundg (gk - 1)
          case measure => omega
          case rel => exact ⟨k + 1, by omega, .inl ⟨by omega, rfl⟩, by go_num, rfl⟩
        · have hk' : k = s := by omega
          subst hk'
          have hb : B l[k] < 128 := by unfold B; omega
          clear g3
          go_wp2
          go_roundg 0
          case measure => omega
          case rel => exact ⟨k + 1, by omega, .inr ⟨rfl, by go_num⟩, by go_num, rfl⟩
      · have hks : k = s + 1 := by omega
        have h0 : (((s + 1 : Nat) : Int) == 0) = false := by rw [beq_eq_false_iff_ne]; omega
        have hkl : k ≤ l.length := by omega
        have hk10 : k ≤ 10 := by omega
        clear hk g3
        subst hks
        by_cases c1 : s + 1 < l.length
        all_goals
          by_cases c2 : s + 1 < 10
          all_goals
            go_wp2
            go_loopg [7, 8] (s + 1) (fun g n i wq => ∃ a : UInt64, n = .int .u64 (W a) ∧ Hid (a = UInt64.ofNat (vval ((l.take (s + 1)).drop g))) ∧ g ≤ s + 1 ∧ ((g = 0 ∧ i = .int .i64 (-1)) ∨ ∃ k : Nat, g = k + 1 ∧ i = .int .i64 k) ∧ wq = wr)
            case atStart => exact ⟨0, rfl, by unfold Hid; rw [List.drop_of_length_le (by rw [List.length_take]; omega)]; rfl, Nat.le_refl _, .inr ⟨s, rfl, rfl⟩, rfl⟩
            case round =>
              obtain ⟨a, rfl, HA, hgs, hi, rfl⟩ := hrel
              rcases hi with ⟨hg0, rfl⟩ | ⟨k, hgk, rfl⟩
              · have hA0 := HA.out
                rw [hg0, List.drop_zero] at hA0
                have HA0 := Lib.hid hA0
                clear hg0 hA0
                have h0' : (((s : Int) + 1) == 0) = false := by rw [beq_eq_false_iff_ne]; omega
                have hsc : s + 1 ≤ c := by omega
                have HT := Lib.hid (H.out.take (s + 1) (by omega))
                by_cases hq : vput a.toNat = l.take (s + 1)
                · have hv := tk_eq HS.out HA0.out hq
                  rw [HV.out] at hv
                  have HVal := Lib.hid hv
                  have hd : decide (vput a.toNat = l.take (s + 1)) = true := by simpa using hq
                  clear hv hq
                  go_wp2_with fail
                  refine wp_region_gr' (by kernel_rfl) (by kernel_rfl) ?_
                  intro ops hop
                  repeat
                    apply wpG_det
                    exact fun _ => by rw [hop.out]; rfl
                    intro us w' hE hH
                    go_simp
                    exact ⟨Gr.refl _, rfl⟩
                    intro us
                    go_simp
                    exact rfl
                  apply wpG_sat (fun u w => Sb w u (vput a.toNat)) (fun _ _ _ h hb => h.below hb)
                  exact fun _ => by rw [hop.out]; rfl
                  · intro us w' hE hH
                    go_simp
                    refine (rput_c _ w').mono ?_
                    rintro e w'' ⟨u, rfl, ho, hb⟩
                    exact ⟨u, rfl, hb, ho.sb⟩
                  intro us
                  go_simp
                  exact rfl
                  repeat
                    apply wpG_det
                    exact fun _ => by rw [hop.out]; rfl
                    intro us w' hE hH
                    go_simp
                    exact ⟨Gr.refl _, rfl⟩
                    intro us
                    go_simp
                    exact rfl
                  apply wpG_det (v := Value.slice A (s + 1) c)
                  exact fun _ => by rw [hop.out]; rfl
                  · intro us w' hE hH
                    go_simp
                    rw [if_pos (by omega)]
                    exact ⟨Gr.refl _, rfl⟩
                  intro us
                  go_simp
                  exact rfl
                  apply wpG_det (v := Value.bool true)
                  exact fun _ => by rw [hop.out]; rfl
                  · intro us w' hE hH
                    go_simp
                    refine (same_c _ _ (vput a.toNat) (l.take (s + 1)) w' (hH.1 rfl) (HT.out.below hE)).mono ?_
                    rintro e w'' ⟨rfl, hb⟩
                    exact ⟨_, rfl, hb, by rw [hd]⟩
                  intro us
                  go_simp
                  exact rfl
                  repeat
                    apply wpG_det
                    exact fun _ => by rw [hop.out]; rfl
                    intro us w' hE hH
                    go_simp
                    exact ⟨Gr.refl _, rfl⟩
                    intro us
                    go_simp
                    exact rfl
                  intro us w' hE _
                  clear hop
                  go_wp2_with fail
                  go_ret3
                  exact ⟨by rw [HVal.out]; rfl, hE⟩
                · have hv := tk_ne HS.out HA0.out hq
                  rw [HV.out] at hv
                  have HVal := Lib.hid hv
                  have hd : decide (vput a.toNat = l.take (s + 1)) = false := by simpa using hq
                  clear hv hq
                  go_wp2_with fail
                  refine wp_region_gr' (by kernel_rfl) (by kernel_rfl) ?_
                  intro ops hop
                  repeat
                    apply wpG_det
                    exact fun _ => by rw [hop.out]; rfl
                    intro us w' hE hH
                    go_simp
                    exact ⟨Gr.refl _, rfl⟩
                    intro us
                    go_simp
                    exact rfl
                  apply wpG_sat (fun u w => Sb w u (vput a.toNat)) (fun _ _ _ h hb => h.below hb)
                  exact fun _ => by rw [hop.out]; rfl
                  · intro us w' hE hH
                    go_simp
                    refine (rput_c _ w').mono ?_
                    rintro e w'' ⟨u, rfl, ho, hb⟩
                    exact ⟨u, rfl, hb, ho.sb⟩
                  intro us
                  go_simp
                  exact rfl
                  repeat
                    apply wpG_det
                    exact fun _ => by rw [hop.out]; rfl
                    intro us w' hE hH
                    go_simp
                    exact ⟨Gr.refl _, rfl⟩
                    intro us
                    go_simp
                    exact rfl
                  apply wpG_det (v := Value.slice A (s + 1) c)
                  exact fun _ => by rw [hop.out]; rfl
                  · intro us w' hE hH
                    go_simp
                    rw [if_pos (by omega)]
                    exact ⟨Gr.refl _, rfl⟩
                  intro us
                  go_simp
                  exact rfl
                  apply wpG_det (v := Value.bool false)
                  exact fun _ => by rw [hop.out]; rfl
                  · intro us w' hE hH
                    go_simp
                    refine (same_c _ _ (vput a.toNat) (l.take (s + 1)) w' (hH.1 rfl) (HT.out.below hE)).mono ?_
                    rintro e w'' ⟨rfl, hb⟩
                    exact ⟨_, rfl, hb, by rw [hd]⟩
                  intro us
                  go_simp
                  exact rfl
                  repeat
                    apply wpG_det
                    exact fun _ => by rw [hop.out]; rfl
                    intro us w' hE hH
                    go_simp
                    exact ⟨Gr.refl _, rfl⟩
                    intro us
                    go_simp
                    exact rfl
                  intro us w' hE _
                  clear hop
                  go_wp2_with fail
                  go_ret3
                  exact ⟨by rw [HVal.out]; rfl, hE⟩
              · have hlt : k < l.length := by omega
                obtain ⟨ad, rfl, had⟩ := H.out.at_ k hlt
                have hst : horn a l[k] = UInt64.ofNat (vval ((l.take (s + 1)).drop k)) := by
                  have hkl : k < (l.take (s + 1)).length := by rw [List.length_take]; omega
                  rw [List.drop_eq_getElem_cons hkl, List.getElem_take, ← hgk]
                  exact horn_val a l[k] _ HA.out
                have HST := Lib.hid hst
                clear hst
                have hb2 := B_hi l[k]
                have hb0 := B_lo l[k]
                go_wp2
                go_roundg k
                case measure => omega
                case rel =>
                  refine ⟨horn a l[k], rfl, HST.out, by omega, ?_, rfl⟩
                  cases k with
                  | zero => exact .inl ⟨rfl, by go_num⟩
                  | succ k => exact .inr ⟨k, rfl, by go_num⟩
end
section
open Go.RowKit
set_option linter.unusedVariables false
set_option linter.unusedSimpArgs false
def tkS (t : UInt64 × Nat × Int) : Value := .tuple #[.int .i64 (zagF t.1), .int .i64 (t.2.1 : Int), .int .i64 t.2.2]
set_option maxHeartbeats 400000 in
theorem takes_c (v : Value) (l : List UInt8) (w : World) (h : Sb w v l) (hl : l.length ≤ 1000000000) :
    Calls Tryz.prog 95 #[v] w (RetV w (tkS (tk l))) := by
  have H := Lib.hid h
  clear h
  have hk := @take_c v l
  unfold tkV at hk
  have HK := Lib.hid hk
  unfold tkS
  generalize (tk l).1 = a at *
  generalize (tk l).2.1 = b at *
  generalize (tk l).2.2 = d at *
  clear hk
  go_enter Tryz.func95, Tryz.ntmps95
  go_wp2_with (first
    | (go_at_call 24; refine (HK.out _ H.out hl).mono ?_; rintro e w1 ⟨rfl, hb1⟩)
    | (go_at_call 101; refine (zag_c _ _).mono ?_; rintro e w2 ⟨rfl, hb2⟩))
  go_ret3
  exact ⟨rfl, gthen hb1 hb2⟩
theorem puts_c (m : Int) (h1 : -9223372036854775808 ≤ m) (h2 : m < 9223372036854775808) (w : World) :
    Calls Tryz.prog 90 #[.int .i64 m] w (RetB w (vput (zigF m).toNat)) := by
  have H1 := Lib.hid h1
  have H2 := Lib.hid h2
  clear h1 h2
  go_enter Tryz.func90, Tryz.ntmps90
  go_wp2_with (first
    | (go_at_call 99; refine (zig_c m H1.out H2.out _).mono ?_; rintro e w1 ⟨rfl, hb1⟩)
    | (go_at_call 45; refine (Put_c _ _).mono ?_; rintro e w2 ⟨u, rfl, ho2, hb2⟩))
  go_ret
  exact ⟨_, rfl, ho2.to hb1.size, gthen hb1 hb2⟩
def wv (a : UInt64) : Value := .int .u64 (W a)
def Sw (w : World) (v : Value) (l : List UInt64) : Prop := Sl w 1 v l.length (l.map wv)
theorem Sw.below {w w' : World} {v : Value} {l : List UInt64} (h : Sw w v l) (hb : Below w.heap.size w w') : Sw w' v l := Sl.below h hb
theorem Sw.at_ {w : World} {A : Option Addr} {n c : Nat} {l : List UInt64} (h : Sw w (.slice A n c) l) (k : Nat) (hk : k < l.length) :
    ∃ ad, A = some ad ∧ w.cell? (ad.add k) = some (.int .u64 (W l[k])) := by
  obtain ⟨ad, u, hA, hu, hc⟩ := Sl.at_ h k hk
  rw [List.getElem?_map, List.getElem?_eq_getElem hk] at hu
  injection hu with hu
  subst hu
  exact ⟨ad, hA, hc⟩
theorem Sw.new (w : World) (e : TypeId) (l : List UInt64) (cs : Array Value) (hc : cs.toList = l.map wv) (hl : l.length ≤ 1000000) (n : Nat) (hn : n = l.length) : Sw (w.alloc (.cells cs e)) (.slice (some ⟨w.heap.size, 0, none⟩) n n) l := by
  have hs : cs.size = l.length := by rw [← Array.length_toList, hc, List.length_map]
  subst hn
  have := Sl.new w cs e (by omega)
  rw [hs, hc] at this
  exact this
def vall (l : List UInt64) : List UInt8 := l.flatMap fun a => vput a.toNat
theorem vall_take (l : List UInt64) (k : Nat) (h : k < l.length) : vall (l.take (k + 1)) = vall (l.take k) ++ vput l[k].toNat := by
  unfold vall; rw [List.take_succ_eq_append_getElem h, List.flatMap_append]; simp
theorem vall_len (l : List UInt64) : (vall l).length ≤ 10 * l.length := by
  induction l with
  | nil => simp [vall]
  | cons a t ih =>
    have := vput_len a.toNat_lt
    unfold vall at *
    simp only [List.flatMap_cons, List.length_append, List.length_cons]
    omega
set_option maxHeartbeats 400000 in
theorem all_c (v : Value) (l : List UInt64) (w : World) (h : Sw w v l) (hl : l.length ≤ 1000000) :
    Calls Tryz.prog 19 #[v] w (RetB w (vall l)) := by
  obtain ⟨A, c, rfl, h1, h2⟩ := Sl.form h
  have H := Lib.hid h
  clear h
  go_enter Tryz.func19, Tryz.ntmps19
  go_wp2
  go_loopw [3, 8] (fun u i wr => ∃ k : Nat, k ≤ l.length ∧ i = .int .i64 k ∧ Hid (Ob wr w.heap.size u (vall (l.take k))) ∧ Below w.heap.size w wr) (fun _ i _ => l.length - (intOf i).toNat)
  case atStart => exact ⟨0, Nat.zero_le _, rfl, by unfold Hid; simpa [vall] using Ob.nil _ _, Below.refl _ _⟩
  case round =>
    obtain ⟨k, hk, rfl, HO, hbw⟩ := hrel
    by_cases hlt : k < l.length
    · obtain ⟨ad, rfl, had⟩ := (H.out.below hbw).at_ k hlt
      have HL := Lib.hid (vall_len (l.take k))
      have HT := Lib.hid (vall_take l k hlt)
      have hsz := hbw.size
      go_wp2_with (go_at_call 37; refine (put_c w.heap.size _ _ _ _ HO.out (by have := HL.out; rw [List.length_take] at this; omega) hsz).mono ?_; rintro e w1 ⟨u1, rfl, ho1, hb1⟩)
      go_roundw
      case rel => exact ⟨k + 1, by omega, by go_num, by unfold Hid; rw [HT.out]; exact ho1, hbw.trans hb1⟩
      case measure => simp [intOf]; omega
    · have HT : Hid (l.take k = l) := List.take_of_length_le (by omega)
      go_wp2
      go_ret
      exact ⟨_, rfl, by have := HO.out; rwa [HT.out] at this, hbw⟩
end
end Go.Proofs.YtgfnpcmehnjopaaGreatDoor
end
section
namespace Go.Proofs.YtgfnpcmehnjopaaGreatDoor
open Go.RowKit
set_option linter.unusedVariables false
set_option linter.unusedSimpArgs false
structure Clk where
  x : Int
  y : Int
  z : Int
deriving DecidableEq
def rightF (c : Clk) : Bool := decide (0 ≤ c.x) && decide (c.x ≤ 4611686018427387903) && decide (0 ≤ c.y) && decide (c.y ≤ 4611686018427387903) && decide (0 ≤ c.z) && decide (c.z ≤ 4611686018427387903)
theorem right_bounds {c : Clk} (h : rightF c = true) : (0 ≤ c.x ∧ c.x ≤ 4611686018427387903) ∧ (0 ≤ c.y ∧ c.y ≤ 4611686018427387903) ∧ (0 ≤ c.z ∧ c.z ≤ 4611686018427387903) := by
  simp only [rightF, Bool.and_eq_true, decide_eq_true_eq] at h
  omega
def zz (m : Int) : List UInt8 := vput (zigF m).toNat
theorem zz_len (m : Int) : (zz m).length ≤ 10 := vput_len (UInt64.toNat_lt _)
def cputF (p c : Clk) : List UInt8 × Int := if rightF p = true ∧ rightF c = true then (zz (c.x - p.x) ++ zz (c.y - p.y) ++ zz (c.z - p.z), 0) else ([], 1)
theorem tk_le (l : List UInt8) : (tk l).2.1 ≤ l.length := by
  cases hs : scan l with
  | none => rw [tk_none hs]; split <;> exact Nat.zero_le _
  | some s =>
    obtain ⟨h1, _⟩ := scan_some hs
    rw [tk_some hs]
    split
    · exact h1
    · exact Nat.zero_le _
def ct1 (q : Int) (l : List UInt8) : Int × Nat × Int :=
  if (tk l).2.2 ≠ 0 then (0, 0, (tk l).2.2) else if zagF (tk l).1 < -q ∨ 4611686018427387903 - q < zagF (tk l).1 then (0, 0, 3) else (q + zagF (tk l).1, (tk l).2.1, 0)
def ctakeF (p : Clk) (b : List UInt8) : Clk × Nat × Int :=
  if rightF p = false then (⟨0, 0, 0⟩, 0, 1) else
  let a := ct1 p.x b
  if a.2.2 ≠ 0 then (⟨0, 0, 0⟩, 0, a.2.2) else
  let d := ct1 p.y (b.drop a.2.1)
  if d.2.2 ≠ 0 then (⟨0, 0, 0⟩, 0, d.2.2) else
  let f := ct1 p.z (b.drop (a.2.1 + d.2.1))
  if f.2.2 ≠ 0 then (⟨0, 0, 0⟩, 0, f.2.2) else (⟨a.1, d.1, f.1⟩, a.2.1 + d.2.1 + f.2.1, 0)
theorem tk_zz (m : Int) (t : List UInt8) : tk (zz m ++ t) = (zigF m, (zz m).length, 0) := tk_put _ _
theorem ct1_zz (q m : Int) (t : List UInt8) (h1 : -9223372036854775808 ≤ m) (h2 : m < 9223372036854775808) :
    ct1 q (zz m ++ t) = if m < -q ∨ 4611686018427387903 - q < m then (0, 0, 3) else (q + m, (zz m).length, 0) := by
  unfold ct1
  rw [tk_zz, if_neg (by simp)]
  simp only [zag_zig m h1 h2]
theorem drop_zz (m : Int) (t : List UInt8) : (zz m ++ t).drop (zz m).length = t := List.drop_left
theorem take_put (p c : Clk) (s : List UInt8) (hp : rightF p = true) (hc : rightF c = true) : ctakeF p ((cputF p c).1 ++ s) = (c, (cputF p c).1.length, 0) := by
  obtain ⟨⟨px0, px1⟩, ⟨py0, py1⟩, pz0, pz1⟩ := right_bounds hp
  obtain ⟨⟨cx0, cx1⟩, ⟨cy0, cy1⟩, cz0, cz1⟩ := right_bounds hc
  have e : cputF p c = (zz (c.x - p.x) ++ zz (c.y - p.y) ++ zz (c.z - p.z), 0) := if_pos ⟨hp, hc⟩
  rw [e]
  dsimp only
  have e1 : zz (c.x - p.x) ++ zz (c.y - p.y) ++ zz (c.z - p.z) ++ s = zz (c.x - p.x) ++ (zz (c.y - p.y) ++ (zz (c.z - p.z) ++ s)) := by simp
  rw [e1]
  unfold ctakeF
  rw [if_neg (by rw [hp]; simp)]
  dsimp only
  have a1 : ct1 p.x (zz (c.x - p.x) ++ (zz (c.y - p.y) ++ (zz (c.z - p.z) ++ s))) = (c.x, (zz (c.x - p.x)).length, 0) := by
    rw [ct1_zz _ _ _ (by omega) (by omega), if_neg (by omega)]
    congr 1; omega
  have a2 : ct1 p.y (zz (c.y - p.y) ++ (zz (c.z - p.z) ++ s)) = (c.y, (zz (c.y - p.y)).length, 0) := by
    rw [ct1_zz _ _ _ (by omega) (by omega), if_neg (by omega)]
    congr 1; omega
  have a3 : ct1 p.z (zz (c.z - p.z) ++ s) = (c.z, (zz (c.z - p.z)).length, 0) := by
    rw [ct1_zz _ _ _ (by omega) (by omega), if_neg (by omega)]
    congr 1; omega
  rw [a1]
  dsimp only
  rw [if_neg (by simp), drop_zz, a2]
  dsimp only
  rw [if_neg (by simp)]
  have e2 : (zz (c.x - p.x) ++ (zz (c.y - p.y) ++ (zz (c.z - p.z) ++ s))).drop ((zz (c.x - p.x)).length + (zz (c.y - p.y)).length) = zz (c.z - p.z) ++ s := by
    rw [← List.drop_drop, drop_zz, drop_zz]
  rw [e2, a3]
  dsimp only
  rw [if_neg (by simp)]
  simp [List.length_append, Nat.add_assoc]
theorem ct1_ok {q : Int} {l : List UInt8} (h : (ct1 q l).2.2 = 0) :
    zz ((ct1 q l).1 - q) = l.take (ct1 q l).2.1 ∧ 1 ≤ (ct1 q l).2.1 ∧ (ct1 q l).2.1 ≤ l.length ∧ 0 ≤ (ct1 q l).1 ∧ (ct1 q l).1 ≤ 4611686018427387903 := by
  unfold ct1 at *
  by_cases h1 : (tk l).2.2 = 0
  · obtain ⟨k1, k2, k3⟩ := tk_ok h1
    rw [if_neg (by simpa using h1)] at h ⊢
    by_cases h2 : zagF (tk l).1 < -q ∨ 4611686018427387903 - q < zagF (tk l).1
    · rw [if_pos h2] at h; exact absurd h (by decide)
    · rw [if_neg h2]
      dsimp only
      refine ⟨?_, k1, k2, by omega, by omega⟩
      rw [show q + zagF (tk l).1 - q = zagF (tk l).1 by omega]
      unfold zz
      rw [zig_zag, k3]
  · rw [if_pos (by simpa using h1)] at h
    exact absurd h h1
theorem ctake_ok {p : Clk} {s : List UInt8} (h : (ctakeF p s).2.2 = 0) :
    rightF (ctakeF p s).1 = true ∧ cputF p (ctakeF p s).1 = (s.take (ctakeF p s).2.1, 0) ∧ 3 ≤ (ctakeF p s).2.1 ∧ (ctakeF p s).2.1 ≤ s.length := by
  cases hr : rightF p with
  | false => unfold ctakeF at h; rw [if_pos hr] at h; exact absurd h (by decide)
  | true =>
    by_cases ha : (ct1 p.x s).2.2 = 0
    · by_cases hd : (ct1 p.y (s.drop (ct1 p.x s).2.1)).2.2 = 0
      · by_cases hf : (ct1 p.z (s.drop ((ct1 p.x s).2.1 + (ct1 p.y (s.drop (ct1 p.x s).2.1)).2.1))).2.2 = 0
        · have e : ctakeF p s = (⟨(ct1 p.x s).1, (ct1 p.y (s.drop (ct1 p.x s).2.1)).1, (ct1 p.z (s.drop ((ct1 p.x s).2.1 + (ct1 p.y (s.drop (ct1 p.x s).2.1)).2.1))).1⟩,
              (ct1 p.x s).2.1 + (ct1 p.y (s.drop (ct1 p.x s).2.1)).2.1 + (ct1 p.z (s.drop ((ct1 p.x s).2.1 + (ct1 p.y (s.drop (ct1 p.x s).2.1)).2.1))).2.1, 0) := by
            unfold ctakeF
            rw [if_neg (by rw [hr]; simp)]
            dsimp only
            rw [if_neg (by simpa using ha), if_neg (by simpa using hd), if_neg (by simpa using hf)]
          rw [e]
          obtain ⟨a1, a2, a3, a4, a5⟩ := ct1_ok ha
          obtain ⟨d1, d2, d3, d4, d5⟩ := ct1_ok hd
          obtain ⟨f1, f2, f3, f4, f5⟩ := ct1_ok hf
          rw [List.length_drop] at d3 f3
          dsimp only
          have hrd : rightF ⟨(ct1 p.x s).1, (ct1 p.y (s.drop (ct1 p.x s).2.1)).1, (ct1 p.z (s.drop ((ct1 p.x s).2.1 + (ct1 p.y (s.drop (ct1 p.x s).2.1)).2.1))).1⟩ = true := by
            simp only [rightF, Bool.and_eq_true, decide_eq_true_eq]
            exact ⟨⟨⟨⟨⟨a4, a5⟩, d4⟩, d5⟩, f4⟩, f5⟩
          refine ⟨hrd, ?_, by omega, by omega⟩
          unfold cputF
          rw [if_pos ⟨hr, hrd⟩]
          dsimp only
          rw [a1, d1, f1]
          congr 1
          rw [← List.take_add, ← List.take_add]
        · unfold ctakeF at h; rw [if_neg (by rw [hr]; simp)] at h; dsimp only at h
          rw [if_neg (by simpa using ha), if_neg (by simpa using hd), if_pos hf] at h
          exact absurd h hf
      · unfold ctakeF at h; rw [if_neg (by rw [hr]; simp)] at h; dsimp only at h
        rw [if_neg (by simpa using ha), if_pos hd] at h
        exact absurd h hd
    · unfold ctakeF at h; rw [if_neg (by rw [hr]; simp)] at h; dsimp only at h
      rw [if_pos ha] at h
      exact absurd h ha
end Go.Proofs.YtgfnpcmehnjopaaGreatDoor
end
section
namespace Go.Proofs.YtgfnpcmehnjopaaGreatDoor
open Go Go.RowKit
set_option linter.unusedVariables false
set_option linter.unusedSimpArgs false
theorem run_equal_mnil0 {P : Program} (w : World) {t k e : TypeId} (b : Nat) (h : P.underlying t = some (.map k e)) : (Op.equal t (.map (some b)) (.map none)).run P w = .ok false w := by
  have : ∀ d : Nat, (Op.equalIn (d + 1) t (.map (some b)) (.map none)).run P w = .ok false w := fun d => by simp [Op.equalIn, run_underlying h]
  exact this 9999
theorem mcl_q (b : Nat) (w : World) : (binOp .eql 126 (.map (some b)) (.map none)).run Tryz.prog w = .ok (.bool false) w := by
  simp only [binOp, Sem.run_bind, run_equal_mnil0 w b Tryz.underlying126, Result.andThen_ok, Sem.run_pure, Sem.run_map]
theorem mcl_x {b : Nat} {es : Array MapEntry} {clock : Nat} {w : World} (hb : w.heap[b]? = some (.map es clock)) (t : TypeId) : (Extern.MapsClone.clone #[.iface t (.map (some b))]).run Tryz.prog w = .ok (.iface t (.map (some w.heap.size))) (w.alloc (.map es clock)) := by
  have e : Extern.MapsClone.clone #[.iface t (.map (some b))] = (getObj b >>= fun o => match o with
      | .map entries clock => (newObj (.map entries clock) >>= fun n => pure (.iface t (.map (some n))))
      | _ => stuck "maps.clone: a map expected") := rfl
  rw [e]
  simp [MapKept.run_getObj_map hb, Result.andThen, go_sem]
theorem mcl_t (xT : TypeId) (v : Value) (w : World) : (Instr.typeAssert (.iface 126 v) xT 126 false).run Tryz.prog w = .ok v w := by
  simp [Instr.typeAssert, run_underlying Tryz.underlying126, go_sem, Result.andThen]
set_option maxRecDepth 100000 in
theorem mclone_c (b : Nat) (es : Array MapEntry) (clock : Nat) (w : World) (hb : w.heap[b]? = some (.map es clock)) :
    Calls Tryz.prog 94 #[.map (some b)] w fun e w' => e = .returned (.map (some w.heap.size)) ∧ w' = w.alloc (.map es clock) := by
  have HB := Lib.hid hb
  clear hb
  have hq := mcl_q b
  go_enter Tryz.func94, Tryz.ntmps94
  go_wp2
  rw [run_callFunc_extern Tryz.func100 (by kernel_rfl) (by kernel_rfl) (by kernel_rfl) (e := Extern.MapsClone.clone) (by kernel_rfl), mcl_x HB.out]
  simp only [Result.andThen]
  rw [Oper.upon_value]
  go_wp2
  rw [mcl_t]
  simp only [Result.andThen]
  rw [Oper.upon_value]
  go_wp2
  go_ret
  exact ⟨rfl, rfl⟩
end Go.Proofs.YtgfnpcmehnjopaaGreatDoor
end
section
namespace Go.Proofs.YtgfnpcmehnjopaaGreatDoor
set_option linter.unusedVariables false
set_option linter.unusedSimpArgs false
def tab4 : List Nat := [0x00000000, 0x105ec76f, 0x20bd8ede, 0x30e349b1, 0x417b1dbc, 0x5125dad3, 0x61c69362, 0x7198540d,
  0x82f63b78, 0x92a8fc17, 0xa24bb5a6, 0xb21572c9, 0xc38d26c4, 0xd3d3e1ab, 0xe330a81a, 0xf36e6f75]
def four (i : UInt32) : UInt32 := UInt32.ofNat (tab4.getD i.toNat 0)
def half (c : UInt32) : UInt32 := four (c &&& 15) ^^^ c >>> 4
def step1 (c : UInt32) (x : UInt8) : UInt32 := half (half (c ^^^ x.toUInt32))
def moreF (s : UInt32) (l : List UInt8) : UInt32 := ~~~(l.foldl step1 (~~~s))
theorem and15_lt (a : UInt32) : (a &&& 15).toNat < 16 := by
  have h : (a &&& 15).toNat = a.toNat % 16 := by rw [UInt32.toNat_and]; exact Nat.and_two_pow_sub_one_eq_mod a.toNat 4
  omega
theorem take_step (c : UInt32) (l : List UInt8) (k : Nat) (h : k < l.length) : (l.take (k + 1)).foldl step1 c = step1 ((l.take k).foldl step1 c) l[k] := by
  rw [List.take_succ_eq_append_getElem h, List.foldl_append]; rfl
def sumF (l : List UInt8) : UInt32 := moreF 0 l
def tail4 (c : UInt32) : List UInt8 := [c.toUInt8, (c >>> 8).toUInt8, (c >>> 16).toUInt8, (c >>> 24).toUInt8]
def sealF (l : List UInt8) : List UInt8 := l ++ tail4 (sumF l)
def openF (l : List UInt8) : List UInt8 × Int :=
  if l.length < 4 then ([], 2) else if sealF (l.take (l.length - 4)) = l then (l.take (l.length - 4), 0) else ([], 5)
def turn1 (at_ : Int) (m : UInt32) (o : List UInt8) (k : Nat) : List UInt8 :=
  if mbit m k = true ∧ 0 ≤ at_ + k ∧ (at_ + k) / 8 < o.length then o.set ((at_ + k) / 8).toNat (o.getD ((at_ + k) / 8).toNat 0 ^^^ UInt8.ofNat (2 ^ ((at_ + k) % 8).toNat)) else o
def turnN (at_ : Int) (m : UInt32) (l : List UInt8) (k : Nat) : List UInt8 := (List.range k).foldl (turn1 at_ m) l
def turnF (at_ : Int) (m : UInt32) (l : List UInt8) : List UInt8 := turnN at_ m l 32
theorem turn1_len (at_ : Int) (m : UInt32) (o : List UInt8) (k : Nat) : (turn1 at_ m o k).length = o.length := by unfold turn1; split <;> simp
theorem turnN_succ (at_ : Int) (m : UInt32) (l : List UInt8) (k : Nat) : turnN at_ m l (k + 1) = turn1 at_ m (turnN at_ m l k) k := by
  unfold turnN; rw [List.range_succ, List.foldl_append]; rfl
theorem turnN_len (at_ : Int) (m : UInt32) (l : List UInt8) (k : Nat) : (turnN at_ m l k).length = l.length := by
  induction k with
  | zero => rfl
  | succ k ih => rw [turnN_succ, turn1_len, ih]
theorem turn1_no {at_ : Int} {m : UInt32} {o : List UInt8} {k : Nat} (h : ¬ (mbit m k = true ∧ 0 ≤ at_ + k ∧ (at_ + k) / 8 < o.length)) : turn1 at_ m o k = o := if_neg h
end Go.Proofs.YtgfnpcmehnjopaaGreatDoor
end
section
namespace Go.Proofs.YtgfnpcmehnjopaaGreatDoor
set_option linter.unusedVariables false
set_option linter.unusedSimpArgs false
def BurstsLaw : Prop := ∀ (l : List UInt8) (at_ : Int) (m : UInt32),
    (turnF at_ m (sealF l) = sealF l → openF (turnF at_ m (sealF l)) = (l, 0)) ∧
    (turnF at_ m (sealF l) ≠ sealF l → openF (turnF at_ m (sealF l)) = ([], 5) ∧ turnF at_ m (turnF at_ m (sealF l)) = sealF l ∧ (turnF at_ m (sealF l)).length = (sealF l).length)
end Go.Proofs.YtgfnpcmehnjopaaGreatDoor
end
section
namespace Go.Proofs.YtgfnpcmehnjopaaGreatDoor
open Go.RowKit
attribute [local go_sem] U_xor U_and15 U_not U_xorB U_xor_shr4
def Tab (w : World) : Prop := ∀ i : UInt32, i.toNat < 16 → w.cell? ⟨0, (U i).toNat, none⟩ = some (.int .u32 (U (four i)))
theorem Tab.at_ {w : World} (h : Tab w) (c : UInt32) : w.cell? ⟨0, (U (c &&& 15)).toNat, none⟩ = some (.int .u32 (U (four (c &&& 15)))) ∧ 0 ≤ U (c &&& 15) ∧ U (c &&& 15) < 16 :=
  ⟨h _ (and15_lt c), U_lo _, by have := and15_lt c; unfold U; omega⟩
set_option maxRecDepth 100000 in
set_option maxHeartbeats 400000 in
theorem more_walk (s : UInt32) (A : Option Addr) (c : Nat) (l : List UInt8) (w : World) (ht : Tab w) (hl : Sb w (.slice A l.length c) l) :
    Calls Tryz.prog 55 #[.int .u32 (U s), .slice A l.length c] w fun e w' => e = .returned (.int .u32 (U (moreF s l))) ∧ w = w' := by
  have HL := Lib.hid hl
  have HT := Lib.hid ht
  have hlen : l.length ≤ 9223372036854775807 := Sb.max hl
  clear hl ht
  go_enter Tryz.func55, Tryz.ntmps55
  go_wp2
  go_loop [5, 12] (fun c i => ∃ k : Nat, k ≤ l.length ∧ i = .int .i64 k ∧ c = .int .u32 (U ((l.take k).foldl step1 (~~~s)))) (fun _ i => l.length - (intOf i).toNat)
  case atStart => exact ⟨0, Nat.zero_le _, rfl, by simp⟩
  case round =>
    obtain ⟨k, hk, rfl, rfl⟩ := hrel
    by_cases hlt : k < l.length
    · generalize hc : (l.take k).foldl step1 (~~~s) = c1
      have HC := Lib.hid hc
      clear hc
      obtain ⟨ad, rfl, had⟩ := Sb.at_ HL.out k hlt
      have hx := B_lo l[k]
      have hy := B_hi l[k]
      obtain ⟨t1, p1, q1⟩ := HT.out.at_ (c1 ^^^ l[k].toUInt32)
      obtain ⟨t2, p2, q2⟩ := HT.out.at_ (half (c1 ^^^ l[k].toUInt32))
      simp only [half] at t2 p2 q2
      go_wp2
      go_round
      case rel => exact ⟨k + 1, by omega, by go_num, by rw [take_step _ _ _ hlt, HC.out]; rfl⟩
      case measure => simp [intOf]; omega
    · have hk2 : l.take k = l := List.take_of_length_le (by omega)
      rw [hk2]
      clear hk2
      go_wp2
      go_ret
      exact ⟨rfl, rfl⟩
end Go.Proofs.YtgfnpcmehnjopaaGreatDoor
end
