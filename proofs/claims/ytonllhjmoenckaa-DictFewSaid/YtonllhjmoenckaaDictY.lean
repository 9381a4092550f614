/- The dictionary and the document's one go together. No program stands here. -/
import Derived.Test.YtonllhjmoenckaaDictL
namespace Go.Proofs.Ytonllhjmoenckaa
open Go Go.RowKit
set_option linter.unusedVariables false
set_option linter.unusedSimpArgs false

structure Rel (d : Di) (r : Rdi) (n : Nat) : Prop where
  ok : d.Ok
  ks : r.ks = d.ks
  now : r.now = n
  wl : r.ws.length = d.ks.length
  ln : d.ks.length = min n 8
  ed : d.e = if n < 8 then 0 else n % 8
  wj : ∀ j, j < d.ks.length → r.ws.getD j 0 = (n : Int) - (((n - 1 - j) % 8 : Nat) : Int)
theorem Rel.nw : Rel Di.new ⟨[], [], 0⟩ 0 := ⟨.nw, rfl, rfl, rfl, rfl, rfl, fun j h => absurd h (by simp [Di.new])⟩
theorem Rel.at_ {d : Di} {r : Rdi} {n : Nat} (h : Rel d r n) (k : ByteArray) : r.at_ k = d.at_ k := by
  rw [h.ok.idx]; unfold Rdi.at_; rw [h.ks]
theorem firstN_rot {w : List Int} {n : Nat} (h8 : 8 ≤ n) (hw : ∀ j, j < 8 → w.getD j 0 = (n : Int) - (((n - 1 - j) % 8 : Nat) : Int)) : ∀ i, i < 8 → firstN w (i + 1) = if i < n % 8 then 0 else n % 8
  | 0, _ => by
    have h0 : firstN w (0 + 1) = 0 := by have := firstN_lt w (0 + 1) (by omega); omega
    rw [h0]
    by_cases h : 0 < n % 8
    · rw [if_pos h]
    · rw [if_neg h]; omega
  | i + 1, hi => by
    have ih := firstN_rot h8 hw i (by omega)
    show (if w.getD (i + 1) 0 < w.getD (firstN w (i + 1)) 0 then i + 1 else firstN w (i + 1)) = _
    rw [ih]
    have h1 := hw (i + 1) hi
    have h0 := hw 0 (by omega)
    have hm := hw (n % 8) (by omega)
    by_cases h2 : i < n % 8
    · rw [if_pos h2, h0, h1]
      by_cases h3 : i + 1 < n % 8
      · rw [if_pos h3, if_neg (by omega)]
      · rw [if_neg h3, if_pos (by omega)]; omega
    · rw [if_neg h2, hm, h1, if_neg (by omega), if_neg (by omega)]
theorem Rel.comes {d : Di} {r : Rdi} {n : Nat} (h : Rel d r n) {k : ByteArray} (hk : d.at_ k < 0) (hs : k.size ≤ 64) : Rel (d.comes k) (r.comes k) (n + 1) := by
  have ok := h.ok.comes (h.ok.out hk) hs
  have hl := h.ln
  have hd := h.ed
  have hr : r.ks.length = d.ks.length := by rw [h.ks]
  have hw := h.wl
  have hj := h.wj
  by_cases h8 : d.ks.length < 8
  · have e1 : d.comes k = ⟨d.ks ++ [k], pnext d.c d.l k, pset d.c d.l k d.ks.length, d.e⟩ := by unfold Di.comes; rw [if_pos h8]
    have e2 : r.comes k = ⟨r.ks ++ [k], r.ws ++ [r.now + 1], r.now + 1⟩ := by unfold Rdi.comes; rw [hr, if_pos h8]
    rw [e1] at ok ⊢
    rw [e2]
    refine ⟨ok, by simp [h.ks], by show r.now + 1 = _; rw [h.now]; rfl, by simp [hw], by simp; omega, ?_, fun j h1 => ?_⟩
    · show d.e = _
      rw [hd, if_pos (by omega)]
      split <;> omega
    · simp at h1
      show (r.ws ++ [r.now + 1]).getD j 0 = _
      rw [List.getD_eq_getElem?_getD]
      by_cases h2 : j < d.ks.length
      · rw [List.getElem?_append_left (by omega), ← List.getD_eq_getElem?_getD, hj j h2]; omega
      · have : j = r.ws.length := by omega
        subst this
        simp [h.now]; omega
  · have e1 : d.comes k = ⟨d.ks.set d.e k, pnext d.c (pdel d.l (d.ks.getD d.e ⟨#[]⟩)) k, pset d.c (pdel d.l (d.ks.getD d.e ⟨#[]⟩)) k d.e, (d.e + 1) % 8⟩ := by unfold Di.comes; rw [if_neg h8]
    have h8' : d.ks.length = 8 := by omega
    have hn : 8 ≤ n := by omega
    rw [if_neg (by omega)] at hd
    have hf : firstN r.ws 8 = d.e := by
      rw [firstN_rot hn (fun j hlt => hj j (by omega)) 7 (by omega), hd]; split <;> omega
    have e2 : r.comes k = ⟨r.ks.set d.e k, r.ws.set d.e (r.now + 1), r.now + 1⟩ := by unfold Rdi.comes; rw [hr, if_neg h8, hf]
    rw [e1] at ok ⊢
    rw [e2]
    refine ⟨ok, by simp [h.ks], by show r.now + 1 = _; rw [h.now]; rfl, by simp [hw], by simp; omega, ?_, fun j h1 => ?_⟩
    · show (d.e + 1) % 8 = _
      rw [if_neg (by omega), hd]; omega
    · simp at h1
      show (r.ws.set d.e (r.now + 1)).getD j 0 = _
      rw [List.getD_eq_getElem?_getD, List.getElem?_set]
      by_cases h2 : d.e = j
      · rw [if_pos h2, if_pos (by omega)]
        simp [h.now]; omega
      · rw [if_neg h2, ← List.getD_eq_getElem?_getD, hj j (by omega)]; omega
theorem vput_zero : vput 0 = [0] := by rw [vput_lt (by omega)]; rfl
theorem Rel.put {d : Di} {r : Rdi} {n : Nat} (h : Rel d r n) (k : ByteArray) : (r.put k).1 = (d.put k).1 ∧ ∃ m, m ≤ n + 1 ∧ Rel (d.put k).2 (r.put k).2 m := by
  unfold Di.put Rdi.put
  rw [h.at_]
  split
  · exact ⟨rfl, n, by omega, h⟩
  · split
    · exact ⟨rfl, n, by omega, h⟩
    · exact ⟨by rw [vput_zero], n + 1, by omega, h.comes (by omega) (by omega)⟩
theorem Rel.take {d : Di} {r : Rdi} {n : Nat} (h : Rel d r n) (b : List UInt8) : (r.take b).1 = (d.take b).1 ∧ ∃ m, m ≤ n + 1 ∧ Rel (d.take b).2 (r.take b).2 m := by
  unfold Di.take Rdi.take
  rcases hb : dkOf b with e | ⟨p, u⟩ | ⟨s, u⟩
  · exact ⟨rfl, n, by omega, h⟩
  · simp only [h.ks]; split <;> exact ⟨rfl, n, by omega, h⟩
  · simp only [h.at_]
    split
    · exact ⟨rfl, n, by omega, h⟩
    · exact ⟨rfl, n + 1, by omega, h.comes (by omega) (dkOf_text hb)⟩
theorem Rel.len {d : Di} {r : Rdi} {n : Nat} (h : Rel d r n) : r.ks.length ≤ 8 ∧ r.ws.length = r.ks.length ∧ 0 ≤ r.now := ⟨by rw [h.ks]; exact h.ok.len, by rw [h.wl, h.ks], by rw [h.now]; omega⟩
end Go.Proofs.Ytonllhjmoenckaa
