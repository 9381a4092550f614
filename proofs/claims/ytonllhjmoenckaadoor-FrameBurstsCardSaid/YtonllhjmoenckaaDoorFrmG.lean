/- Frames, told by bytes: what is wrapped is read again; a frame cut short is an error; bursts. No program stands here. -/
import Derived.Test.YtonllhjmoenckaaDoorFrmF
namespace Go.Proofs.YtonllhjmoenckaaDoor
open Go Go.RowKit
set_option linter.unusedVariables false
set_option linter.unusedSimpArgs false

theorem sealF_eq (l : List UInt8) : ∃ t : List UInt8, t.length = 4 ∧ sealF l = l ++ t := ⟨_, rfl, rfl⟩
theorem tk_nat (n : Nat) (h : n < 18446744073709551616) (b : List UInt8) : tk (vput n ++ b) = (UInt64.ofNat n, (vput n).length, 0) := by
  have := tk_put (UInt64.ofNat n) b
  rwa [UInt64.toNat_ofNat_of_lt' h] at this
theorem wrapF_ok {p f : List UInt8} (h : wrapF p = (f, 0)) : p.length ≤ 8192 ∧ f = sealF (vput p.length ++ p) ∧ f.length = (vput p.length).length + p.length + 4 := by
  unfold wrapF at h
  split at h
  · simp at h
  · rename_i h1
    simp only [Prod.mk.injEq, and_true] at h
    exact ⟨by omega, h.symm, by rw [← h, sealF_len]; simp⟩
theorem wrapF_small {p : List UInt8} (h : p.length ≤ 8192) : wrapF p = (sealF (vput p.length ++ p), 0) := by unfold wrapF; rw [if_neg (by omega)]
theorem wrapF_big {p : List UInt8} (h : (wrapF p).2 ≠ 0) : wrapF p = ([], 4) := by
  unfold wrapF at h ⊢
  split
  · rfl
  · rename_i h1; rw [if_neg h1] at h; simp at h
theorem nextF_frame {p f : List UInt8} (h : wrapF p = (f, 0)) (r : List UInt8) : nextF (f ++ r) = (p, f.length, 0) := by
  obtain ⟨h1, h2, h3⟩ := wrapF_ok h
  obtain ⟨t, ht, hs⟩ := sealF_eq (vput p.length ++ p)
  rw [hs] at h2
  have e1 : f ++ r = vput p.length ++ (p ++ t ++ r) := by rw [h2]; simp
  have e2 := tk_nat p.length (by omega) (p ++ t ++ r)
  rw [← e1] at e2
  have e3 : (UInt64.ofNat p.length).toNat = p.length := UInt64.toNat_ofNat_of_lt' (by show p.length < 18446744073709551616; omega)
  unfold nextF
  rw [e2]
  dsimp only
  rw [e3, ← h3]
  have e4 : (f ++ r).take f.length = f := by simp
  rw [e4]
  have e5 : openF f = (vput p.length ++ p, 0) := by rw [h2, ← hs]; exact openF_seal _
  rw [e5]
  rw [if_neg (by simp), if_neg (by omega), if_neg (by simp), if_neg (by simp)]
  simp
theorem nextF_err {b : List UInt8} (h : (nextF b).2.2 ≠ 0) : (nextF b).1 = [] ∧ (nextF b).2.1 = 0 := by
  unfold nextF at h ⊢
  split
  · exact ⟨rfl, rfl⟩
  rename_i h1
  rw [if_neg h1] at h
  split
  · exact ⟨rfl, rfl⟩
  rename_i h2
  rw [if_neg h2] at h
  split
  · exact ⟨rfl, rfl⟩
  rename_i h3
  rw [if_neg h3] at h
  split
  · exact ⟨rfl, rfl⟩
  rename_i h4
  rw [if_neg h4] at h
  exact absurd rfl h
theorem nextF_0 {b : List UInt8} (h : (nextF b).2.2 = 0) : (nextF b).2.1 ≤ b.length ∧ wrapF (nextF b).1 = (b.take (nextF b).2.1, 0) := by
  obtain ⟨p, n, e, hn⟩ : ∃ p n e, nextF b = (p, n, e) := ⟨_, _, _, rfl⟩
  rw [hn] at h ⊢
  dsimp only at h ⊢
  subst h
  have := nextF_ok hn
  exact ⟨this.1, this.2.2.2⟩
/-- A frame cut short is not read. -/
theorem nextF_cut {p f : List UInt8} (h : wrapF p = (f, 0)) {k : Nat} (hk : k < f.length) : (nextF (f.take k)).2.2 ≠ 0 := by
  intro h0
  obtain ⟨h1, h2⟩ := nextF_0 h0
  rw [List.length_take] at h1
  have e := nextF_frame h2 ((f.take k).drop (nextF (f.take k)).2.1 ++ f.drop k)
  rw [← List.append_assoc, List.take_append_drop, List.take_append_drop] at e
  have e' := nextF_frame h []
  rw [List.append_nil] at e'
  rw [e'] at e
  simp only [Prod.mk.injEq, and_true] at e
  have := e.2
  rw [List.length_take, List.length_take] at this
  omega
/-- A burst in a frame is told. -/
theorem burst_told (p : List UInt8) (hp : p.length ≤ 8192) (at_ : Int) (m : UInt32) (h : turnF at_ m (sealF (vput p.length ++ p)) ≠ sealF (vput p.length ++ p)) :
    ((nextF (turnF at_ m (sealF (vput p.length ++ p)))).2.2 ≠ 0 ∧ (nextF (turnF at_ m (sealF (vput p.length ++ p)))).2.1 = 0 ∧ (nextF (turnF at_ m (sealF (vput p.length ++ p)))).1 = []) ∨
    ((nextF (turnF at_ m (sealF (vput p.length ++ p)))).2.2 = 0 ∧ (nextF (turnF at_ m (sealF (vput p.length ++ p)))).2.1 < (sealF (vput p.length ++ p)).length) := by
  obtain ⟨b1, _, b3⟩ := (bursts_law (vput p.length ++ p) at_ m).2 h
  generalize turnF at_ m (sealF (vput p.length ++ p)) = g at *
  by_cases h0 : (nextF g).2.2 = 0
  · refine .inr ⟨h0, ?_⟩
    obtain ⟨h1, h2⟩ := nextF_0 h0
    by_cases hn : (nextF g).2.1 = g.length
    · rw [hn, List.take_length] at h2
      obtain ⟨_, h3, _⟩ := wrapF_ok h2
      rw [h3, openF_seal] at b1
      simp at b1
    · omega
  · have := nextF_err h0
    exact .inl ⟨h0, this.2, this.1⟩

/-! Rows of frames. -/
def frow (l : List (List UInt8)) : List UInt8 := (l.map fun p => (wrapF p).1).flatten
def Fits (l : List (List UInt8)) : Prop := ∀ p ∈ l, p.length ≤ 8192
theorem wrapF_fit {p : List UInt8} (h : p.length ≤ 8192) : wrapF p = ((wrapF p).1, 0) := by rw [wrapF_small h]
theorem frow_nil : frow [] = [] := rfl
theorem frow_cons (p : List UInt8) (l : List (List UInt8)) : frow (p :: l) = (wrapF p).1 ++ frow l := by simp [frow]
theorem frow_append (a b : List (List UInt8)) : frow (a ++ b) = frow a ++ frow b := by simp [frow]
theorem Fits.cons {p : List UInt8} {l : List (List UInt8)} (h : Fits (p :: l)) : p.length ≤ 8192 ∧ Fits l := ⟨h p (by simp), fun q hq => h q (by simp [hq])⟩
theorem allN_fits : ∀ (l : List (List UInt8)) (b : List UInt8), Fits l → allN l b = (b ++ frow l, 0)
  | [], b, _ => by simp [allN, frow]
  | p :: l, b, h => by
    obtain ⟨h1, h2⟩ := h.cons
    have hw := wrapF_fit h1
    unfold allN
    rw [hw]
    simp only [ne_eq, not_true_eq_false, if_false]
    rw [allN_fits l _ h2, frow_cons, List.append_assoc]
theorem allN_not : ∀ (l : List (List UInt8)) (b : List UInt8), ¬ Fits l → allN l b = ([], 4)
  | [], b, h => absurd (fun p hp => by simp at hp) h
  | p :: l, b, h => by
    unfold allN
    split
    · rename_i h1
      rw [wrapF_big h1]
    · rename_i h1
      refine allN_not l _ fun hl => h fun q hq => ?_
      rcases List.mem_cons.1 hq with rfl | hq
      · have h1 := Decidable.not_not.1 h1
        exact (wrapF_ok (f := (wrapF q).1) (by rw [← h1])).1
      · exact hl q hq
theorem frow_ge : ∀ (l : List (List UInt8)), Fits l → l.length ≤ (frow l).length
  | [], _ => by simp [frow]
  | p :: l, h => by
    obtain ⟨h1, h2⟩ := h.cons
    have := frow_ge l h2
    have h3 := (wrapF_ok (wrapF_fit h1)).2.2
    rw [frow_cons, List.length_append, List.length_cons]
    omega
/-- What is scanned of frames, and what stands behind them. -/
theorem scanN_frow (b r : List UInt8) (hr : r = [] ∨ (nextF r).2.2 ≠ 0) : ∀ (l : List (List UInt8)), Fits l → ∀ (k used : Nat) (out : List (List UInt8)), l.length < k → used ≤ b.length → b.drop used = frow l ++ r →
    scanN b k out used = (out ++ l, used + (frow l).length, if r = [] then 0 else (nextF r).2.2)
  | [], _, 0, used, out, hk, hu, hd => by simp at hk
  | [], _, k + 1, used, out, hk, hu, hd => by
    rw [frow_nil, List.nil_append] at hd
    unfold scanN
    by_cases h : r = []
    · rw [if_pos h]
      have : used = b.length := by have := congrArg List.length hd; rw [h] at this; simp at this; omega
      rw [if_pos this]; simp [frow]
    · rw [if_neg h]
      have h' : (nextF r).2.2 ≠ 0 := hr.resolve_left h
      have : used ≠ b.length := by intro e; rw [e, List.drop_length] at hd; exact h hd.symm
      rw [if_neg this, hd, if_pos h']; simp [frow]
  | p :: l, hf, 0, used, out, hk, hu, hd => by simp at hk
  | p :: l, hf, k + 1, used, out, hk, hu, hd => by
    obtain ⟨h1, h2⟩ := hf.cons
    rw [frow_cons, List.append_assoc] at hd
    have hw := wrapF_fit h1
    have hn := nextF_frame hw (frow l ++ r)
    have h3 := (wrapF_ok hw).2.2
    have hl := congrArg List.length hd
    rw [List.length_drop, List.length_append, List.length_append] at hl
    unfold scanN
    rw [if_neg (by omega), hd, hn]
    simp only [ne_eq, not_true_eq_false, if_false]
    rw [scanN_frow b r hr l h2 k (used + (wrapF p).1.length) (out ++ [p]) (by simp at hk; omega) (by omega) (by rw [← List.drop_drop, hd]; simp), frow_cons]
    simp; omega
theorem scanF_frow (l : List (List UInt8)) (r : List UInt8) (hf : Fits l) (hr : r = [] ∨ (nextF r).2.2 ≠ 0) : scanF (frow l ++ r) = (l, (frow l).length, if r = [] then 0 else (nextF r).2.2) := by
  have := scanN_frow (frow l ++ r) r hr l hf ((frow l ++ r).length + 1) 0 [] (by have := frow_ge l hf; rw [List.length_append]; omega) (Nat.zero_le _) (by simp)
  simpa [scanF] using this
/-- What is scanned stands so in the bytes. -/
theorem scanN_back (b : List UInt8) : ∀ (k used : Nat) (out : List (List UInt8)), Fits out → used ≤ b.length → frow out = b.take used →
    Fits (scanN b k out used).1 ∧ (scanN b k out used).2.1 ≤ b.length ∧ frow (scanN b k out used).1 = b.take (scanN b k out used).2.1
  | 0, used, out, h1, h2, h3 => ⟨h1, h2, h3⟩
  | k + 1, used, out, h1, h2, h3 => by
    unfold scanN
    split
    · exact ⟨h1, h2, h3⟩
    split
    · exact ⟨h1, h2, h3⟩
    · rename_i h4
      have h4 := Decidable.not_not.1 h4
      obtain ⟨h5, h6⟩ := nextF_0 h4
      rw [List.length_drop] at h5
      refine scanN_back b k _ _ (fun p hp => ?_) (by omega) ?_
      · rcases List.mem_append.1 hp with hp | hp
        · exact h1 p hp
        · rw [List.mem_singleton.1 hp]; exact (wrapF_ok h6).1
      · rw [frow_append, frow_cons, frow_nil, List.append_nil, h3, h6, List.take_add]
theorem scanF_back (b : List UInt8) : Fits (scanF b).1 ∧ (scanF b).2.1 ≤ b.length ∧ frow (scanF b).1 = b.take (scanF b).2.1 :=
  scanN_back b (b.length + 1) 0 [] (fun p hp => by simp at hp) (Nat.zero_le _) (by simp [frow])
/-- A row of frames cut short. -/
theorem cut_told (l : List (List UInt8)) (hf : Fits l) (k : Nat) (hk : k ≤ l.length) (cut : Nat) (h1 : (frow (l.take k)).length ≤ cut) (h2 : ∀ p, l[k]? = some p → cut < (frow (l.take k)).length + (wrapF p).1.length) (h3 : cut ≤ (frow l).length) :
    ∃ e, scanF ((frow l).take cut) = (l.take k, (frow (l.take k)).length, e) ∧ (e = 0 ↔ (frow (l.take k)).length = cut) := by
  have hft : Fits (l.take k) := fun p hp => hf p (List.mem_of_mem_take hp)
  by_cases h : k < l.length
  · have hg : l[k]? = some l[k] := List.getElem?_eq_getElem h
    have h2 := h2 _ hg
    have hw := wrapF_fit (hf l[k] (List.getElem_mem h))
    have e : frow l = frow (l.take k) ++ ((wrapF l[k]).1 ++ frow (l.drop (k + 1))) := by
      rw [← frow_cons, ← List.drop_eq_getElem_cons h, ← frow_append, List.take_append_drop]
    have e2 : (frow l).take cut = frow (l.take k) ++ (wrapF l[k]).1.take (cut - (frow (l.take k)).length) := by
      rw [e, List.take_append, List.take_of_length_le h1, List.take_append_of_le_length (by omega)]
    have hc := nextF_cut hw (k := cut - (frow (l.take k)).length) (by omega)
    rw [e2, scanF_frow _ _ hft (.inr hc)]
    refine ⟨_, rfl, ?_⟩
    split
    · rename_i h0
      have := congrArg List.length h0
      simp only [List.length_take, List.length_nil] at this
      exact ⟨fun _ => by omega, fun _ => rfl⟩
    · rename_i h0
      refine ⟨fun e => absurd e hc, fun e => absurd ?_ h0⟩
      rw [e, Nat.sub_self, List.take_zero]
  · obtain rfl : k = l.length := by omega
    rw [List.take_length] at h1 ⊢
    obtain rfl : cut = (frow l).length := by omega
    rw [List.take_length]
    have := scanF_frow l [] hf (.inl rfl)
    rw [List.append_nil] at this
    exact ⟨_, this, by simp⟩
end Go.Proofs.YtonllhjmoenckaaDoor
