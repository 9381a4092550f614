/- Layer 1 in plain Lean: a number's bytes and back. No program stands here. -/
import Derived.Test.YtonllhjmoenckaaBits
namespace Go.Proofs.Ytonllhjmoenckaa
set_option linter.unusedVariables false
set_option linter.unusedSimpArgs false

/-- A number's bytes. -/
def vput (n : Nat) : List UInt8 := if n < 128 then [UInt8.ofNat n] else UInt8.ofNat (n % 128 + 128) :: vput (n / 128)
termination_by n
decreasing_by omega
theorem vput_lt {n : Nat} (h : n < 128) : vput n = [UInt8.ofNat n] := by rw [vput, if_pos h]
theorem vput_ge {n : Nat} (h : 128 ≤ n) : vput n = UInt8.ofNat (n % 128 + 128) :: vput (n / 128) := by rw [vput, if_neg (by omega)]

/-- The number that bytes tell, seven bits each. -/
def vval : List UInt8 → Nat
  | [] => 0
  | b :: t => b.toNat % 128 + 128 * vval t

/-- All bytes but the last have the high bit. -/
def vform : List UInt8 → Prop
  | [] => False
  | [b] => b.toNat < 128
  | b :: c :: t => 128 ≤ b.toNat ∧ vform (c :: t)

theorem vform_cons {b : UInt8} {t : List UInt8} (ht : t ≠ []) : vform (b :: t) ↔ 128 ≤ b.toNat ∧ vform t := by
  cases t with
  | nil => exact absurd rfl ht
  | cons c t => exact Iff.rfl

theorem vput_ne (n : Nat) : vput n ≠ [] := by
  rw [vput]; split <;> simp

theorem vput_len_le (k : Nat) : ∀ n, n < 128 ^ (k + 1) → (vput n).length ≤ k + 1 := by
  induction k with
  | zero => intro n h; rw [vput_lt (by simpa using h)]; simp
  | succ k ih =>
    intro n h
    by_cases hn : n < 128
    · rw [vput_lt hn]; simp
    · rw [vput_ge (by omega), List.length_cons]
      have := ih (n / 128) (by rw [Nat.pow_succ] at h; omega)
      omega
theorem vput_len_gt (k : Nat) : ∀ n, 128 ^ k ≤ n → k < (vput n).length := by
  induction k with
  | zero => intro n h; exact List.length_pos_iff.2 (vput_ne n)
  | succ k ih =>
    intro n h
    have h1 : 0 < 128 ^ k := Nat.pow_pos (by omega)
    rw [Nat.pow_succ] at h
    rw [vput_ge (by omega), List.length_cons]
    have := ih (n / 128) (by omega)
    omega
theorem vput_len {n : Nat} (h : n < 18446744073709551616) : (vput n).length ≤ 10 := vput_len_le 9 n (Nat.lt_of_lt_of_le h (by decide))

theorem of_low {n : Nat} (h : n < 256) : (UInt8.ofNat n).toNat = n := by rw [UInt8.toNat_ofNat']; omega

theorem vval_vput : ∀ n, vval (vput n) = n := by
  intro n
  induction n using Nat.strongRecOn with
  | ind n ih =>
    by_cases hn : n < 128
    · rw [vput_lt hn]; simp only [vval]; rw [of_low (by omega)]; omega
    · rw [vput_ge (by omega)]; simp only [vval]; rw [ih (n / 128) (by omega), of_low (by omega)]; omega

theorem vform_vput : ∀ n, vform (vput n) := by
  intro n
  induction n using Nat.strongRecOn with
  | ind n ih =>
    by_cases hn : n < 128
    · rw [vput_lt hn]; show (UInt8.ofNat n).toNat < 128; rw [of_low (by omega)]; omega
    · rw [vput_ge (by omega), vform_cons (vput_ne _), of_low (by omega)]; exact ⟨by omega, ih _ (by omega)⟩

/-- Bytes of the form are some number's bytes just when that number has as many. -/
theorem vput_vval : ∀ t, vform t → ((vput (vval t)).length = t.length ↔ vput (vval t) = t)
  | [], h => absurd h (by simp [vform])
  | [b], h => by
    have hb : b.toNat < 128 := h
    have : vval [b] = b.toNat := by simp only [vval]; omega
    rw [this, vput_lt hb]
    simp
  | b :: c :: t, h => by
    obtain ⟨h1, h2⟩ := h
    have ih := vput_vval (c :: t) h2
    have e : vval (b :: c :: t) = b.toNat % 128 + 128 * vval (c :: t) := rfl
    have hb := b.toNat_lt
    by_cases hz : vval (c :: t) = 0
    · rw [e, hz, vput_lt (by omega)]
      simp
    · rw [e, vput_ge (by omega)]
      have e1 : (b.toNat % 128 + 128 * vval (c :: t)) / 128 = vval (c :: t) := by omega
      have e2 : (b.toNat % 128 + 128 * vval (c :: t)) % 128 + 128 = b.toNat := by omega
      rw [e1, e2]
      have e3 : UInt8.ofNat b.toNat = b := UInt8.ofNat_toNat
      rw [e3]
      constructor
      · intro hl
        have : (vput (vval (c :: t))).length = (c :: t).length := by simpa using hl
        rw [ih.1 this]
      · intro hl; rw [hl]

theorem vval_lt : ∀ t : List UInt8, vval t < 128 ^ t.length
  | [] => by simp [vval]
  | b :: t => by
    have := vval_lt t
    simp only [vval, List.length_cons, Nat.pow_succ]
    omega
theorem vval_append : ∀ s t : List UInt8, vval (s ++ t) = vval s + 128 ^ s.length * vval t
  | [], t => by simp [vval]
  | b :: s, t => by
    simp only [List.cons_append, vval, vval_append s t, List.length_cons, Nat.pow_succ]
    rw [Nat.mul_add, ← Nat.mul_assoc, Nat.mul_comm 128 (128 ^ s.length)]
    omega

/-- The first byte without the high bit, among the first ten. -/
def scan (l : List UInt8) : Option Nat := (l.take 10).findIdx? (fun b => decide (b.toNat < 128))

theorem scan_some {l : List UInt8} {s : Nat} (h : scan l = some s) : ∃ h : s < l.length, s < 10 ∧ l[s].toNat < 128 ∧ ∀ j (hj : j < s), 128 ≤ l[j].toNat := by
  obtain ⟨h1, h2, h3⟩ := List.findIdx?_eq_some_iff_getElem.1 h
  rw [List.length_take] at h1
  refine ⟨by omega, by omega, by simpa using h2, fun j hj => ?_⟩
  have := h3 j hj
  simp at this
  exact this
theorem scan_none {l : List UInt8} (h : scan l = none) : ∀ j (hj : j < l.length), j < 10 → 128 ≤ l[j].toNat := by
  intro j hj h10
  have h0 := List.findIdx?_eq_none_iff.1 h
  have := h0 l[j] (List.mem_take_iff_getElem.2 ⟨j, by omega, rfl⟩)
  simpa using this
theorem scan_of {l : List UInt8} {s : Nat} (h : s < l.length) (h10 : s < 10) (h1 : l[s].toNat < 128) (h2 : ∀ j (hj : j < s), 128 ≤ l[j].toNat) : scan l = some s := by
  refine List.findIdx?_eq_some_iff_getElem.2 ⟨by rw [List.length_take]; omega, by simpa using h1, fun j hj => ?_⟩
  have := h2 j hj
  simp; exact this
theorem scan_none_of {l : List UInt8} (h : ∀ j (hj : j < l.length), j < 10 → 128 ≤ l[j].toNat) : scan l = none := by
  refine List.findIdx?_eq_none_iff.2 fun x hx => ?_
  obtain ⟨j, hj, rfl⟩ := List.mem_take_iff_getElem.1 hx
  have := h j (by omega) (by omega)
  simpa using this

theorem form_of : ∀ (l : List UInt8) (s : Nat) (h : s < l.length), l[s].toNat < 128 → (∀ j (hj : j < s), 128 ≤ l[j].toNat) → vform (l.take (s + 1))
  | [], s, h, _, _ => absurd h (by simp)
  | b :: t, 0, h, h1, _ => by simpa [vform] using h1
  | b :: t, s + 1, h, h1, h2 => by
    have hlt : s < t.length := by simpa using h
    rw [List.take_succ_cons, vform_cons (by intro h0; have := congrArg List.length h0; rw [List.length_take, List.length_nil] at this; omega)]
    exact ⟨h2 0 (by omega), form_of t s hlt (by simpa using h1) fun j hj => by simpa using h2 (j + 1) (by omega)⟩

/-- A number's bytes, and what stands behind: the scan ends at the last of them. -/
theorem scan_form : ∀ (t : List UInt8), vform t → ∀ b : List UInt8, ∃ s, t.length = s + 1 ∧ ∃ h : s < (t ++ b).length, (t ++ b)[s].toNat < 128 ∧ ∀ j (hj : j < s), 128 ≤ (t ++ b)[j].toNat
  | [], h, _ => absurd h (by simp [vform])
  | [x], h, b => ⟨0, rfl, by simp, h, fun j hj => absurd hj (by omega)⟩
  | x :: y :: t, h, b => by
    obtain ⟨h1, h2⟩ := h
    obtain ⟨s, e, hs, q1, q2⟩ := scan_form (y :: t) h2 b
    refine ⟨s + 1, by simpa using e, by simpa using hs, by simpa using q1, fun j hj => ?_⟩
    cases j with
    | zero => exact h1
    | succ j => simpa using q2 j (by omega)

/-- What Take tells: the number, its size, the error. -/
def tk (l : List UInt8) : UInt64 × Nat × Int :=
  match scan l with
  | none => if l.length < 10 then (0, 0, 2) else (0, 0, 3)
  | some s => if vput (vval (l.take (s + 1))) = l.take (s + 1) ∧ vval (l.take (s + 1)) < 18446744073709551616 then (UInt64.ofNat (vval (l.take (s + 1))), s + 1, 0) else (0, 0, 3)

theorem tk_none {l : List UInt8} (h : scan l = none) : tk l = if l.length < 10 then (0, 0, 2) else (0, 0, 3) := by unfold tk; rw [h]
theorem tk_some {l : List UInt8} {s : Nat} (h : scan l = some s) : tk l = if vput (vval (l.take (s + 1))) = l.take (s + 1) ∧ vval (l.take (s + 1)) < 18446744073709551616 then (UInt64.ofNat (vval (l.take (s + 1))), s + 1, 0) else (0, 0, 3) := by unfold tk; rw [h]

theorem tk_put (n : UInt64) (b : List UInt8) : tk (vput n.toNat ++ b) = (n, (vput n.toNat).length, 0) := by
  obtain ⟨s, e, hs, q1, q2⟩ := scan_form _ (vform_vput n.toNat) b
  have hl := vput_len n.toNat_lt
  rw [tk_some (scan_of hs (by omega) q1 q2), ← e, List.take_left, vval_vput, if_pos ⟨rfl, n.toNat_lt⟩, UInt64.ofNat_toNat]
theorem tk_cut (n : UInt64) : tk ((vput n.toNat).take ((vput n.toNat).length - 1)) = (0, 0, 2) := by
  obtain ⟨s, e, hs, q1, q2⟩ := scan_form _ (vform_vput n.toNat) []
  have hl := vput_len n.toNat_lt
  rw [tk_none, if_pos (by rw [List.length_take]; omega)]
  refine scan_none_of fun j hj h10 => ?_
  rw [List.length_take] at hj
  have := q2 j (by omega)
  rw [List.getElem_append_left (by omega)] at this
  simpa using this
theorem tk_ok {l : List UInt8} (h : (tk l).2.2 = 0) : 1 ≤ (tk l).2.1 ∧ (tk l).2.1 ≤ l.length ∧ vput (tk l).1.toNat = l.take (tk l).2.1 := by
  cases hs : scan l with
  | none => rw [tk_none hs] at h; split at h <;> exact absurd h (by decide)
  | some s =>
    rw [tk_some hs] at h ⊢
    obtain ⟨h1, h2, h3, h4⟩ := scan_some hs
    split
    · next hc => exact ⟨Nat.succ_pos _, h1, by show vput (UInt64.ofNat _).toNat = _; rw [UInt64.toNat_ofNat_of_lt' hc.2]; exact hc.1⟩
    · next hc => rw [if_neg hc] at h; exact absurd h (by decide)

/-- Zig and Zag. -/
def zigF (m : Int) : UInt64 := UInt64.ofNat (if 0 ≤ m then 2 * m else -2 * m - 1).toNat
def zagF (n : UInt64) : Int := if n.toNat % 2 = 0 then (n.toNat / 2 : Nat) else -((n.toNat / 2 : Nat) : Int) - 1
theorem zag_zig (m : Int) (h1 : -9223372036854775808 ≤ m) (h2 : m < 9223372036854775808) : zagF (zigF m) = m := by
  unfold zagF zigF
  by_cases h : 0 ≤ m
  · rw [if_pos h, UInt64.toNat_ofNat_of_lt' (by show _ < 18446744073709551616; omega), if_pos (by omega)]; omega
  · rw [if_neg h, UInt64.toNat_ofNat_of_lt' (by show _ < 18446744073709551616; omega), if_neg (by omega)]; omega
theorem zig_zag (n : UInt64) : zigF (zagF n) = n := by
  have := n.toNat_lt
  apply UInt64.toNat_inj.1
  unfold zagF zigF
  by_cases h : n.toNat % 2 = 0
  · rw [if_pos h, if_pos (by omega), UInt64.toNat_ofNat_of_lt' (by show _ < 18446744073709551616; omega)]; omega
  · rw [if_neg h, if_neg (by omega), UInt64.toNat_ofNat_of_lt' (by show _ < 18446744073709551616; omega)]; omega
theorem zag_lo (n : UInt64) : -9223372036854775808 ≤ zagF n := by have := n.toNat_lt; unfold zagF; split <;> omega
theorem zag_hi (n : UInt64) : zagF n < 9223372036854775808 := by have := n.toNat_lt; unfold zagF; split <;> omega

/-- No number's bytes begin another one's. -/
theorem vput_prefix {m n : Nat} (hl : (vput m).length ≤ (vput n).length) (h : vput m = (vput n).take (vput m).length) : m = n := by
  obtain ⟨s, e, hs, q1, q2⟩ := scan_form _ (vform_vput m) []
  obtain ⟨r, e', hr, p1, p2⟩ := scan_form _ (vform_vput n) []
  simp only [List.append_nil] at hs q1 q2 hr p1 p2
  have key : (vput m).length = (vput n).length := by
    rcases Nat.lt_or_ge s r with hlt | hge
    · have := p2 s hlt
      have hx : (vput m)[s] = (vput n)[s] := by
        have h0 : (vput m)[s]? = (vput n)[s]? := by
          rw [h, List.getElem?_take]
          rw [if_pos (by omega)]
        rw [List.getElem?_eq_getElem hs, List.getElem?_eq_getElem (by omega)] at h0
        exact Option.some.inj h0
      rw [hx] at q1
      omega
    · omega
  rw [key, List.take_length] at h
  rw [← vval_vput m, h, vval_vput]

theorem vput_len_mono {m n : Nat} (h : m ≤ n) : (vput m).length ≤ (vput n).length := by
  induction n using Nat.strongRecOn generalizing m with
  | ind n ih =>
    by_cases hm : m < 128
    · rw [vput_lt hm]; exact List.length_pos_iff.2 (vput_ne n)
    · rw [vput_ge (n := m) (by omega), vput_ge (n := n) (by omega), List.length_cons, List.length_cons]
      have := @ih (n / 128) (by omega) (m / 128) (by omega)
      omega
end Go.Proofs.Ytonllhjmoenckaa
