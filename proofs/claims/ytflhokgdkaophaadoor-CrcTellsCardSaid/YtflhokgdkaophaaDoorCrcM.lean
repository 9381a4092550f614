/- The plain law of bursts: no burst of 32 bits in a row is opened. No program stands here. -/
import Derived.Test.YtflhokgdkaophaaDoorCrcP
namespace Go.Proofs.YtflhokgdkaophaaDoor
set_option linter.unusedVariables false
set_option linter.unusedSimpArgs false

def poly : BitVec 32 := 0x82f63b78#32
/-- One step of the register, without a new bit. -/
def t1 (c : BitVec 32) : BitVec 32 := (c >>> 1) ^^^ (if c.getLsbD 0 then poly else 0#32)
def t1n : Nat → BitVec 32 → BitVec 32
  | 0, c => c
  | n + 1, c => t1n n (t1 c)

theorem xlc (a b c : BitVec 32) : a ^^^ (b ^^^ c) = b ^^^ (a ^^^ c) := by rw [← BitVec.xor_assoc, BitVec.xor_comm a b, BitVec.xor_assoc]
theorem t1_xor (a b : BitVec 32) : t1 (a ^^^ b) = t1 a ^^^ t1 b := by
  apply BitVec.eq_of_getLsbD_eq
  intro i hi
  unfold t1
  rw [BitVec.getLsbD_xor (x := a) (y := b) (i := 0)]
  cases a.getLsbD 0 <;> cases b.getLsbD 0 <;> simp only [BitVec.getLsbD_xor, BitVec.getLsbD_ushiftRight, Bool.xor_false, Bool.false_xor, Bool.xor_true, Bool.true_xor, Bool.not_true, Bool.not_false, if_true, if_false, Bool.false_eq_true, BitVec.getLsbD_zero] <;>
    cases a.getLsbD (1 + i) <;> cases b.getLsbD (1 + i) <;> cases poly.getLsbD i <;> rfl
theorem t1_zero : t1 0#32 = 0#32 := by decide
theorem t1_eq_zero {a : BitVec 32} (h : t1 a = 0#32) : a = 0#32 := by
  have h31 := congrArg (fun x : BitVec 32 => x.getLsbD 31) h
  have ha : a.getLsbD 0 = false := by
    cases h0 : a.getLsbD 0 with
    | false => rfl
    | true =>
      exfalso
      simp only [t1, h0, if_true, BitVec.getLsbD_xor, BitVec.getLsbD_ushiftRight, BitVec.getLsbD_zero] at h31
      have hp : poly.getLsbD 31 = true := by decide
      rw [hp, BitVec.getLsbD_of_ge a (1 + 31) (by omega)] at h31
      simp at h31
  apply BitVec.eq_of_getLsbD_eq
  intro i hi
  rw [BitVec.getLsbD_zero]
  cases i with
  | zero => exact ha
  | succ j =>
    have := congrArg (fun x : BitVec 32 => x.getLsbD j) h
    simp only [t1, ha, BitVec.getLsbD_xor, BitVec.getLsbD_ushiftRight, BitVec.getLsbD_zero] at this
    rw [Nat.add_comm]
    simpa using this
theorem t1_shl {y : BitVec 32} (h : y.getLsbD 31 = false) : t1 (y <<< 1) = y := by
  have h0 : (y <<< 1).getLsbD 0 = false := by rw [BitVec.getLsbD_shiftLeft]; simp
  apply BitVec.eq_of_getLsbD_eq
  intro i hi
  simp only [t1, h0, BitVec.getLsbD_xor, BitVec.getLsbD_ushiftRight, BitVec.getLsbD_shiftLeft]
  by_cases h31 : i = 31
  · subst h31; rw [h]; simp
  · have : 1 + i < 32 := by omega
    simp [this]

theorem t1n_xor (n : Nat) : ∀ a b : BitVec 32, t1n n (a ^^^ b) = t1n n a ^^^ t1n n b := by
  induction n with
  | zero => intro a b; rfl
  | succ n ih => intro a b; simp only [t1n, t1_xor, ih]
theorem t1n_zero (n : Nat) : t1n n 0#32 = 0#32 := by
  induction n with
  | zero => rfl
  | succ n ih => simp only [t1n, t1_zero, ih]
theorem t1n_eq_zero (n : Nat) : ∀ {a : BitVec 32}, t1n n a = 0#32 → a = 0#32 := by
  induction n with
  | zero => intro a h; exact h
  | succ n ih => intro a h; exact t1_eq_zero (ih h)
theorem t1n_add (n m : Nat) : ∀ a : BitVec 32, t1n (n + m) a = t1n m (t1n n a) := by
  induction n with
  | zero => intro a; rw [Nat.zero_add]; rfl
  | succ n ih => intro a; rw [Nat.add_right_comm]; simp only [t1n, ih]

def b2w (b : Bool) : BitVec 32 := if b then 1#32 else 0#32
def reg (c : BitVec 32) (bs : List Bool) : BitVec 32 := bs.foldl (fun c b => t1 (c ^^^ b2w b)) c
def word : List Bool → BitVec 32
  | [] => 0#32
  | b :: bs => b2w b ^^^ (word bs <<< 1)

theorem b2w_bit (b : Bool) (i : Nat) : (b2w b).getLsbD i = (decide (i = 0) && b) := by
  cases b <;> cases i <;> simp [b2w]
theorem word_bit : ∀ (bs : List Bool) (i : Nat), i < 32 → (word bs).getLsbD i = bs.getD i false
  | [], i, _ => by simp [word]
  | b :: bs, 0, _ => by
    simp only [word, BitVec.getLsbD_xor, b2w_bit, BitVec.getLsbD_shiftLeft]
    simp
  | b :: bs, i + 1, h => by
    have ih := word_bit bs i (by omega)
    simp only [word, BitVec.getLsbD_xor, b2w_bit, BitVec.getLsbD_shiftLeft]
    simp [ih, h]
theorem reg_feed : ∀ (bs : List Bool) (c : BitVec 32), bs.length ≤ 32 → reg c bs = t1n bs.length (c ^^^ word bs)
  | [], c, _ => by simp [reg, word, t1n]
  | b :: bs, c, h => by
    have h31 : (word bs).getLsbD 31 = false := by
      rw [word_bit _ _ (by omega), List.getD_eq_getElem?_getD, List.getElem?_eq_none (by simp at h; omega)]; rfl
    have ih := reg_feed bs (t1 (c ^^^ b2w b)) (by simp at h; omega)
    simp only [reg, List.foldl_cons] at ih ⊢
    rw [ih]
    simp only [List.length_cons, t1n, word]
    rw [← BitVec.xor_assoc, t1_xor (c ^^^ b2w b), t1_shl h31]

theorem reg_append (c : BitVec 32) (as bs : List Bool) : reg c (as ++ bs) = reg (reg c as) bs := List.foldl_append ..
theorem reg_xor : ∀ (as bs : List Bool) (c d : BitVec 32), as.length = bs.length → reg (c ^^^ d) (List.zipWith xor as bs) = reg c as ^^^ reg d bs
  | [], [], c, d, _ => rfl
  | a :: as, b :: bs, c, d, h => by
    have hb : b2w (xor a b) = b2w a ^^^ b2w b := by cases a <;> cases b <;> decide
    have ih := reg_xor as bs (t1 (c ^^^ b2w a)) (t1 (d ^^^ b2w b)) (by simpa using h)
    simp only [reg, List.zipWith_cons_cons, List.foldl_cons] at ih ⊢
    rw [← ih, ← t1_xor, hb]
    congr 2
    rw [BitVec.xor_assoc, BitVec.xor_assoc, xlc d]
  | [], _ :: _, _, _, h => by simp at h
  | _ :: _, [], _, _, h => by simp at h
theorem reg_false (n : Nat) : ∀ c : BitVec 32, reg c (List.replicate n false) = t1n n c := by
  induction n with
  | zero => intro c; rfl
  | succ n ih =>
    intro c
    have hb : b2w false = 0#32 := rfl
    have := ih (t1 c)
    simp only [reg, List.replicate_succ, List.foldl_cons, hb, BitVec.xor_zero, t1n] at this ⊢
    exact this

/-- A burst within 32 bits leaves the register other than it was. -/
theorem burst_reg (es : List Bool) (A : Nat) (hw : ∀ p, es.getD p false = true → A ≤ p ∧ p < A + 32) (p : Nat) (hp : es.getD p false = true) : reg 0#32 es ≠ 0#32 := by
  have allf : ∀ l : List Bool, (∀ i, l.getD i false = false) → l = List.replicate l.length false := by
    intro l h
    apply List.eq_replicate_iff.2
    refine ⟨rfl, fun b hb => ?_⟩
    obtain ⟨i, hi, rfl⟩ := List.mem_iff_getElem.1 hb
    have := h i
    rwa [List.getD_eq_getElem?_getD, List.getElem?_eq_getElem hi] at this
  have h1 : es.take A = List.replicate (es.take A).length false := allf _ fun i => by
    by_cases hi : i < A
    · rw [List.getD_eq_getElem?_getD, List.getElem?_take, if_pos hi, ← List.getD_eq_getElem?_getD]
      cases hq : es.getD i false with
      | false => rfl
      | true => have := hw i hq; omega
    · rw [List.getD_eq_getElem?_getD, List.getElem?_take, if_neg hi]; rfl
  have h3 : (es.drop A).drop 32 = List.replicate ((es.drop A).drop 32).length false := allf _ fun i => by
    rw [List.getD_eq_getElem?_getD, List.getElem?_drop, List.getElem?_drop, ← List.getD_eq_getElem?_getD]
    cases hq : es.getD (A + (32 + i)) false with
    | false => rfl
    | true => have := hw _ hq; omega
  have hs : es = es.take A ++ ((es.drop A).take 32 ++ (es.drop A).drop 32) := by rw [List.take_append_drop, List.take_append_drop]
  rw [hs, reg_append, reg_append, h1, reg_false, t1n_zero, h3, reg_false, reg_feed _ _ (by simp; omega)]
  intro h0
  have h4 := t1n_eq_zero _ (t1n_eq_zero _ h0)
  rw [BitVec.zero_xor] at h4
  have hb := hw p hp
  have h5 := word_bit ((es.drop A).take 32) (p - A) (by omega)
  rw [h4, BitVec.getLsbD_zero, List.getD_eq_getElem?_getD, List.getElem?_take, if_pos (by omega), List.getElem?_drop, show A + (p - A) = p from by omega, ← List.getD_eq_getElem?_getD, hp] at h5
  cases h5
end Go.Proofs.YtflhokgdkaophaaDoor
