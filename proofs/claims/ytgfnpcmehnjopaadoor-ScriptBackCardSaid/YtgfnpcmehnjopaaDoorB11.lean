/- Parts of the proofs, joined: FrmG, ScrG, ScrV, ScrU, ScrC. -/
import Derived.Test.YtgfnpcmehnjopaaDoorB2
import Derived.Test.YtgfnpcmehnjopaaDoorB10
section
namespace Go.Proofs.YtgfnpcmehnjopaaDoor
open Go Go.RowKit
set_option linter.unusedVariables false
set_option linter.unusedSimpArgs false
theorem sealF_eq (l : List UInt8) : ∃ t : List UInt8, t.length = 4 ∧ sealF l = l ++ t := ⟨_, rfl, rfl⟩
theorem wrapF_ok {p f : List UInt8} (h : wrapF p = (f, 0)) : p.length ≤ 8192 ∧ f = sealF (vput p.length ++ p) ∧ f.length = (vput p.length).length + p.length + 4 := by
  unfold wrapF at h
  split at h
  · simp at h
  · rename_i h1
    simp only [Prod.mk.injEq, and_true] at h
    exact ⟨by omega, h.symm, by rw [← h, sealF_len]; simp⟩
theorem wrapF_small {p : List UInt8} (h : p.length ≤ 8192) : wrapF p = (sealF (vput p.length ++ p), 0) := by unfold wrapF; rw [if_neg (by omega)]
theorem wrapF_big {p : List UInt8} (h : (wrapF p).2 ≠ 0) : wrapF p = ([], 4) := by
  unfold wrapF at h ⊢
  split
  · rfl
  · rename_i h1; rw [if_neg h1] at h; simp at h
theorem nextF_frame {p f : List UInt8} (h : wrapF p = (f, 0)) (r : List UInt8) : nextF (f ++ r) = (p, f.length, 0) := by
  obtain ⟨h1, h2, h3⟩ := wrapF_ok h
  obtain ⟨t, ht, hs⟩ := sealF_eq (vput p.length ++ p)
  rw [hs] at h2
  have e1 : f ++ r = vput p.length ++ (p ++ t ++ r) := by rw [h2]; simp
  have e2 := tk_nat p.length (by omega) (p ++ t ++ r)
  rw [← e1] at e2
  have e3 : (UInt64.ofNat p.length).toNat = p.length := UInt64.toNat_ofNat_of_lt' (by show p.length < 18446744073709551616; omega)
  unfold nextF
  rw [e2]
  dsimp only
  rw [e3, ← h3]
  have e4 : (f ++ r).take f.length = f := by simp
  rw [e4]
  have e5 : openF f = (vput p.length ++ p, 0) := by rw [h2, ← hs]; exact openF_seal _
  rw [e5]
  rw [if_neg (by simp), if_neg (by omega), if_neg (by simp), if_neg (by simp)]
  simp
theorem nextF_0 {b : List UInt8} (h : (nextF b).2.2 = 0) : (nextF b).2.1 ≤ b.length ∧ wrapF (nextF b).1 = (b.take (nextF b).2.1, 0) := by
  obtain ⟨p, n, e, hn⟩ : ∃ p n e, nextF b = (p, n, e) := ⟨_, _, _, rfl⟩
  rw [hn] at h ⊢
  dsimp only at h ⊢
  subst h
  have := nextF_ok hn
  exact ⟨this.1, this.2.2.2⟩
def frow (l : List (List UInt8)) : List UInt8 := (l.map fun p => (wrapF p).1).flatten
def Fits (l : List (List UInt8)) : Prop := ∀ p ∈ l, p.length ≤ 8192
theorem wrapF_fit {p : List UInt8} (h : p.length ≤ 8192) : wrapF p = ((wrapF p).1, 0) := by rw [wrapF_small h]
theorem frow_nil : frow [] = [] := rfl
theorem frow_cons (p : List UInt8) (l : List (List UInt8)) : frow (p :: l) = (wrapF p).1 ++ frow l := by simp [frow]
theorem frow_append (a b : List (List UInt8)) : frow (a ++ b) = frow a ++ frow b := by simp [frow]
theorem Fits.cons {p : List UInt8} {l : List (List UInt8)} (h : Fits (p :: l)) : p.length ≤ 8192 ∧ Fits l := ⟨h p (by simp), fun q hq => h q (by simp [hq])⟩
theorem allN_fits : ∀ (l : List (List UInt8)) (b : List UInt8), Fits l → allN l b = (b ++ frow l, 0)
  | [], b, _ => by simp [allN, frow]
  | p :: l, b, h => by
    obtain ⟨h1, h2⟩ := h.cons
    have hw := wrapF_fit h1
    unfold allN
    rw [hw]
    simp only [ne_eq, not_true_eq_false, if_false]
    rw [allN_fits l _ h2, frow_cons, List.append_assoc]
theorem allN_not : ∀ (l : List (List UInt8)) (b : List UInt8), ¬ Fits l → allN l b = ([], 4)
  | [], b, h => absurd (fun p hp => by simp at hp) h
  | p :: l, b, h => by
    unfold allN
    split
    · rename_i h1
      rw [wrapF_big h1]
    · rename_i h1
      refine allN_not l _ fun hl => h fun q hq => ?_
      rcases List.mem_cons.1 hq with rfl | hq
      · have h1 := Decidable.not_not.1 h1
        exact (wrapF_ok (f := (wrapF q).1) (by rw [← h1])).1
      · exact hl q hq
theorem frow_ge : ∀ (l : List (List UInt8)), Fits l → l.length ≤ (frow l).length
  | [], _ => by simp [frow]
  | p :: l, h => by
    obtain ⟨h1, h2⟩ := h.cons
    have := frow_ge l h2
    have h3 := (wrapF_ok (wrapF_fit h1)).2.2
    rw [frow_cons, List.length_append, List.length_cons]
    omega
theorem scanN_frow (b r : List UInt8) (hr : r = [] ∨ (nextF r).2.2 ≠ 0) : ∀ (l : List (List UInt8)), Fits l → ∀ (k used : Nat) (out : List (List UInt8)), l.length < k → used ≤ b.length → b.drop used = frow l ++ r →
    scanN b k out used = (out ++ l, used + (frow l).length, if r = [] then 0 else (nextF r).2.2)
  | [], _, 0, used, out, hk, hu, hd => by simp at hk
  | [], _, k + 1, used, out, hk, hu, hd => by
    rw [frow_nil, List.nil_append] at hd
    unfold scanN
    by_cases h : r = []
    · rw [if_pos h]
      have : used = b.length := by have := congrArg List.length hd; rw [h] at this; simp at this; omega
      rw [if_pos this]; simp [frow]
    · rw [if_neg h]
      have h' : (nextF r).2.2 ≠ 0 := hr.resolve_left h
      have : used ≠ b.length := by intro e; rw [e, List.drop_length] at hd; exact h hd.symm
      rw [if_neg this, hd, if_pos h']; simp [frow]
  | p :: l, hf, 0, used, out, hk, hu, hd => by simp at hk
  | p :: l, hf, k + 1, used, out, hk, hu, hd => by
    obtain ⟨h1, h2⟩ := hf.cons
    rw [frow_cons, List.append_assoc] at hd
    have hw := wrapF_fit h1
    have hn := nextF_frame hw (frow l ++ r)
    have h3 := (wrapF_ok hw).2.2
    have hl := congrArg List.length hd
    rw [List.length_drop, List.length_append, List.length_append] at hl
    unfold scanN
    rw [if_neg (by omega), hd, hn]
    simp only [ne_eq, not_true_eq_false, if_false]
    rw [scanN_frow b r hr l h2 k (used + (wrapF p).1.length) (out ++ [p]) (by simp at hk; omega) (by omega) (by rw [← List.drop_drop, hd]; simp), frow_cons]
    simp; omega
theorem scanF_frow (l : List (List UInt8)) (r : List UInt8) (hf : Fits l) (hr : r = [] ∨ (nextF r).2.2 ≠ 0) : scanF (frow l ++ r) = (l, (frow l).length, if r = [] then 0 else (nextF r).2.2) := by
  have := scanN_frow (frow l ++ r) r hr l hf ((frow l ++ r).length + 1) 0 [] (by have := frow_ge l hf; rw [List.length_append]; omega) (Nat.zero_le _) (by simp)
  simpa [scanF] using this
theorem scanN_back (b : List UInt8) : ∀ (k used : Nat) (out : List (List UInt8)), Fits out → used ≤ b.length → frow out = b.take used →
    Fits (scanN b k out used).1 ∧ (scanN b k out used).2.1 ≤ b.length ∧ frow (scanN b k out used).1 = b.take (scanN b k out used).2.1
  | 0, used, out, h1, h2, h3 => ⟨h1, h2, h3⟩
  | k + 1, used, out, h1, h2, h3 => by
    unfold scanN
    split
    · exact ⟨h1, h2, h3⟩
    split
    · exact ⟨h1, h2, h3⟩
    · rename_i h4
      have h4 := Decidable.not_not.1 h4
      obtain ⟨h5, h6⟩ := nextF_0 h4
      rw [List.length_drop] at h5
      refine scanN_back b k _ _ (fun p hp => ?_) (by omega) ?_
      · rcases List.mem_append.1 hp with hp | hp
        · exact h1 p hp
        · rw [List.mem_singleton.1 hp]; exact (wrapF_ok h6).1
      · rw [frow_append, frow_cons, frow_nil, List.append_nil, h3, h6, List.take_add]
theorem scanF_back (b : List UInt8) : Fits (scanF b).1 ∧ (scanF b).2.1 ≤ b.length ∧ frow (scanF b).1 = b.take (scanF b).2.1 :=
  scanN_back b (b.length + 1) 0 [] (fun p hp => by simp at hp) (Nat.zero_le _) (by simp [frow])
end Go.Proofs.YtgfnpcmehnjopaaDoor
end
section
namespace Go.Proofs.YtgfnpcmehnjopaaDoor
open Go Go.RowKit
set_option linter.unusedVariables false
set_option linter.unusedSimpArgs false
theorem bsz (k : ByteArray) : k.toList.length = k.size := by rw [ByteArray.toList_eq]; simp
theorem numR_put {n most : Nat} {above : Int} (r : List UInt8) (hn : n ≤ most) (hm : most < 18446744073709551616) : numR (vput n ++ r, 0) most above = (n, r, 0) := by
  have e : (UInt64.ofNat n).toNat = n := by rw [UInt64.toNat_ofNat']; omega
  unfold numR
  dsimp only
  rw [if_neg (by simp), tk_nat n (by omega) r]
  dsimp only
  rw [e, if_neg (by omega), if_neg (by simp), List.drop_left]
theorem numR_inv {s : Rst} {most : Nat} {above : Int} {n : Nat} {r : List UInt8} (ha : above ≠ 0) (h : numR s most above = (n, r, 0)) : s.2 = 0 ∧ s.1 = vput n ++ r ∧ n ≤ most := by
  obtain ⟨b, e⟩ := s
  unfold numR at h
  dsimp only at h ⊢
  split at h
  · rename_i h0
    simp only [Prod.mk.injEq] at h
    exact absurd h.2.2 h0
  · rename_i h0
    have h0 := Decidable.not_not.1 h0
    split at h
    · simp only [Prod.mk.injEq] at h
      exact absurd h.2.2 ha
    · rename_i h1
      simp only [Prod.mk.injEq] at h
      obtain ⟨h2, h3, h4⟩ := h
      rw [if_neg (by simpa using h4)] at h2
      have := tk_ok h4
      rw [← h2, ← h3, this.2.2, List.take_append_drop]
      exact ⟨h0, rfl, by omega⟩
theorem numR_err {s : Rst} {most : Nat} {above : Int} (ha : above ≠ 0) (h : (numR s most above).2.2 ≠ 0) : (numR s most above).1 = 0 := by
  unfold numR at h ⊢
  split
  · rfl
  split
  · rfl
  · rename_i h1 h2
    rw [if_neg h1, if_neg h2] at h
    dsimp only at h ⊢
    rw [if_pos h]
theorem textR_put (k : ByteArray) (r : List UInt8) : textR (k.toList ++ r, 0) k.size = (k, r, 0) := by
  unfold textR
  dsimp only
  have := bsz k
  rw [if_neg (by simp), if_neg (by rw [List.length_append]; omega), ← this, List.take_left, List.drop_left, ByteArray.toList_eq]
theorem textR_inv {s : Rst} {n : Nat} {t : ByteArray} {r : List UInt8} (h : textR s n = (t, r, 0)) : s.2 = 0 ∧ s.1 = t.toList ++ r ∧ t.size = n := by
  obtain ⟨b, e⟩ := s
  unfold textR at h
  dsimp only at h ⊢
  split at h
  · rename_i h0
    simp only [Prod.mk.injEq] at h
    exact absurd h.2.2 h0
  · rename_i h0
    split at h
    · simp at h
    · rename_i h1
      simp only [Prod.mk.injEq, and_true] at h
      obtain ⟨rfl, rfl⟩ := h
      refine ⟨Decidable.not_not.1 h0, by rw [ByteArray.toList_eq]; simp, ?_⟩
      show (List.take n b).toArray.size = n
      simp; omega
theorem clockR_put (c : Clk) (r : List UInt8) (hc : rightF c = true) : clockR ((cputF ⟨0, 0, 0⟩ c).1 ++ r, 0) = (c, r, 0) := by
  unfold clockR
  dsimp only
  rw [if_neg (by simp), take_put ⟨0, 0, 0⟩ c r (by decide) hc, List.drop_left]
theorem clockR_inv {s : Rst} {c : Clk} {r : List UInt8} (h : clockR s = (c, r, 0)) : s.2 = 0 ∧ s.1 = (cputF ⟨0, 0, 0⟩ c).1 ++ r := by
  obtain ⟨b, e⟩ := s
  unfold clockR at h
  dsimp only at h ⊢
  split at h
  · rename_i h0
    simp only [Prod.mk.injEq] at h
    exact absurd h.2.2 h0
  · rename_i h0
    simp only [Prod.mk.injEq] at h
    obtain ⟨h1, h2, h3⟩ := h
    have := ctake_ok h3
    rw [h1] at this
    rw [this.2.1, ← h2, List.take_append_drop]
    exact ⟨Decidable.not_not.1 h0, rfl⟩
def WrOk (a : Wr) : Prop := a.k.size ≤ 64 ∧ a.v.size ≤ 256 ∧ (a.g = true → a.v = ByteArray.empty)
theorem writeR_put {a : Wr} (h : WrOk a) (r : List UInt8) : writeR (textF a ++ r, 0) = (a, r, 0) := by
  obtain ⟨k, v, g⟩ := a
  obtain ⟨h1, h2, h3⟩ := h
  dsimp only at h1 h2 h3
  unfold writeR textF
  dsimp only
  rw [List.append_assoc, List.append_assoc, numR_put _ h1 (by omega)]
  dsimp only
  rw [textR_put]
  dsimp only
  cases g with
  | true =>
    have : ([0] : List UInt8) = vput 0 := by rw [vput_lt (by omega)]; rfl
    rw [if_pos rfl, this, numR_put _ (by omega) (by omega), h3 rfl]
    rfl
  | false =>
    simp only [Bool.false_eq_true, if_false]
    rw [List.append_assoc, numR_put _ (by omega) (by omega)]
    dsimp only
    rw [if_neg (by omega), Nat.add_sub_cancel, textR_put]
theorem writeR_inv {s : Rst} {a : Wr} {r : List UInt8} (h : writeR s = (a, r, 0)) : s.2 = 0 ∧ s.1 = textF a ++ r := by
  unfold writeR at h
  dsimp only at h
  obtain ⟨k, s1, h1⟩ : ∃ k s1, numR s 64 1 = (k, s1) := ⟨_, _, rfl⟩
  rw [h1] at h
  dsimp only at h
  obtain ⟨t, s2, h2⟩ : ∃ t s2, textR s1 k = (t, s2) := ⟨_, _, rfl⟩
  rw [h2] at h
  dsimp only at h
  obtain ⟨n, s3, h3⟩ : ∃ n s3, numR s2 257 1 = (n, s3) := ⟨_, _, rfl⟩
  rw [h3] at h
  dsimp only at h
  have key : ∀ r2, s3 = (r2, 0) → s.2 = 0 ∧ s.1 = vput t.size ++ (t.toList ++ (vput n ++ r2)) := by
    intro r2 e
    subst e
    obtain ⟨a1, a2, a3⟩ := numR_inv (by decide) h3
    obtain ⟨b2, e2⟩ := s2
    dsimp only at a1 a2
    subst a1
    subst a2
    obtain ⟨b1, b3, b4⟩ := textR_inv h2
    obtain ⟨b1', e1⟩ := s1
    dsimp only at b1 b3
    subst b1
    subst b3
    obtain ⟨c1, c2, c3⟩ := numR_inv (by decide) h1
    exact ⟨c1, by rw [c2, b4]⟩
  by_cases hn : n = 0
  · rw [if_pos hn] at h
    simp only [Prod.mk.injEq] at h
    obtain ⟨rfl, h4⟩ := h
    obtain ⟨g1, g2⟩ := key r h4
    refine ⟨g1, ?_⟩
    rw [g2, hn]
    have : vput 0 = [0] := by rw [vput_lt (by omega)]; rfl
    rw [this]
    simp [textF]
  · rw [if_neg hn] at h
    obtain ⟨v, s4, h4⟩ : ∃ v s4, textR s3 (n - 1) = (v, s4) := ⟨_, _, rfl⟩
    rw [h4] at h
    simp only [Prod.mk.injEq] at h
    obtain ⟨rfl, rfl⟩ := h
    obtain ⟨a1, a2, a3⟩ := textR_inv h4
    obtain ⟨g1, g2⟩ := key s3.1 (by rw [← a1])
    refine ⟨g1, ?_⟩
    rw [g2, a2]
    have : v.size + 1 = n := by omega
    simp [textF, this]
theorem writesR_put : ∀ (l : List Wr) (r : List UInt8), (∀ a ∈ l, WrOk a) → writesR l.length (l.flatMap textF ++ r, 0) = (l, r, 0)
  | [], r, _ => rfl
  | a :: l, r, h => by
    show writesR (l.length + 1) _ = _
    unfold writesR
    rw [List.flatMap_cons, List.append_assoc, writeR_put (h a (by simp))]
    dsimp only
    rw [writesR_put l r fun b hb => h b (by simp [hb])]
theorem writesR_inv : ∀ (n : Nat) {s : Rst} {l : List Wr} {r : List UInt8}, writesR n s = (l, r, 0) → s.2 = 0 ∧ s.1 = l.flatMap textF ++ r ∧ l.length = n
  | 0, s, l, r, h => by
    unfold writesR at h
    simp only [Prod.mk.injEq] at h
    obtain ⟨rfl, rfl⟩ := h
    exact ⟨rfl, rfl, rfl⟩
  | n + 1, s, l, r, h => by
    unfold writesR at h
    obtain ⟨a, s1, h1⟩ : ∃ a s1, writeR s = (a, s1) := ⟨_, _, rfl⟩
    rw [h1] at h
    dsimp only at h
    obtain ⟨m, s2, h2⟩ : ∃ m s2, writesR n s1 = (m, s2) := ⟨_, _, rfl⟩
    rw [h2] at h
    simp only [Prod.mk.injEq] at h
    obtain ⟨rfl, rfl⟩ := h
    obtain ⟨a1, a2, a3⟩ := writesR_inv n h2
    obtain ⟨b1, e1⟩ := s1
    dsimp only at a1 a2
    subst a1
    obtain ⟨g1, g2⟩ := writeR_inv h1
    exact ⟨g1, by rw [g2, a2, List.flatMap_cons, List.append_assoc], by simp [a3]⟩
theorem keptR_put : ∀ (l : List Int) (r : List UInt8), (∀ n ∈ l, 0 ≤ n ∧ n ≤ 4611686018427387903) → keptR l.length (l.flatMap (fun n => vput n.toNat) ++ r, 0) = (l, r, 0)
  | [], r, _ => rfl
  | a :: l, r, h => by
    show keptR (l.length + 1) _ = _
    have ha := h a (by simp)
    unfold keptR
    rw [List.flatMap_cons, List.append_assoc, numR_put _ (by omega) (by omega)]
    dsimp only
    rw [keptR_put l r fun b hb => h b (by simp [hb]), show ((a.toNat : Nat) : Int) = a by omega]
theorem keptR_inv : ∀ (n : Nat) {s : Rst} {l : List Int} {r : List UInt8}, keptR n s = (l, r, 0) → s.2 = 0 ∧ s.1 = l.flatMap (fun n => vput n.toNat) ++ r ∧ l.length = n
  | 0, s, l, r, h => by
    unfold keptR at h
    simp only [Prod.mk.injEq] at h
    obtain ⟨rfl, rfl⟩ := h
    exact ⟨rfl, rfl, rfl⟩
  | n + 1, s, l, r, h => by
    unfold keptR at h
    obtain ⟨a, s1, h1⟩ : ∃ a s1, numR s 4611686018427387903 1 = (a, s1) := ⟨_, _, rfl⟩
    rw [h1] at h
    dsimp only at h
    obtain ⟨m, s2, h2⟩ : ∃ m s2, keptR n s1 = (m, s2) := ⟨_, _, rfl⟩
    rw [h2] at h
    simp only [Prod.mk.injEq] at h
    obtain ⟨rfl, rfl⟩ := h
    obtain ⟨a1, a2, a3⟩ := keptR_inv n h2
    obtain ⟨b1, e1⟩ := s1
    dsimp only at a1 a2
    subst a1
    obtain ⟨g1, g2, g3⟩ := numR_inv (by decide) h1
    exact ⟨g1, by rw [g2, a2, List.flatMap_cons, List.append_assoc]; rfl, by simp [a3]⟩
theorem wok_of {w : List Wr} (h : wroteE w = 0) : w.length ≤ 16 ∧ ∀ a ∈ w, WrOk a := by
  unfold wroteE checkF at h
  dsimp only at h
  rw [if_neg (by decide), if_neg (by decide), if_neg (by decide)] at h
  split at h
  · cases h
  rename_i h1
  split at h
  · cases h
  rename_i h2
  refine ⟨by omega, fun a ha => ?_⟩
  have g1 : a.long = false := by
    cases hl : a.long
    · rfl
    · exact absurd (.inr (List.any_eq_true.2 ⟨a, ha, hl⟩)) h1
  have g2 : a.odd = false := by
    cases hl : a.odd
    · rfl
    · exact absurd (List.any_eq_true.2 ⟨a, ha, hl⟩) h2
  simp only [Wr.long, Bool.or_eq_false_iff, decide_eq_false_iff_not] at g1
  refine ⟨by omega, by omega, fun hg => ?_⟩
  simp only [Wr.odd, hg, Bool.true_and, decide_eq_false_iff_not, ne_eq, Decidable.not_not] at g2
  exact g2
theorem peel {p : Prop} [Decidable p] {n r : Int} (hn : n ≠ 0) (h : (if p then n else r) = 0) : ¬ p ∧ r = 0 := by
  split at h
  · exact absurd h hn
  · exact ⟨by assumption, h⟩
theorem checkI_ok {x : It} (h : checkI x = 0) : (0 ≤ x.d ∧ x.d ≤ 8) ∧ (0 ≤ x.o ∧ x.o ≤ 3 ∧ (x.o = 0 ∨ x.d < 3 ∨ x.d = 7 ∨ x.d = 8)) ∧ (0 ≤ x.n ∧ x.n ≤ 1048576 ∧ (x.n = 0 ∨ 3 ≤ x.d ∧ x.d ≤ 6 ∨ x.d = 8)) ∧ (0 ≤ x.a ∧ x.a ≤ 1048576 ∧ (x.a = 0 ∨ x.d = 6)) ∧ (x.m = 0 ∨ x.d = 6) ∧ rightF x.c = true ∧ (x.c = ⟨0, 0, 0⟩ ∨ x.d = 0) ∧ wroteE x.w = 0 ∧ (x.w = [] ∨ x.d = 0) ∧ x.k.length ≤ 4 ∧ (x.k = [] ∨ x.d = 7) ∧ ∀ n ∈ x.k, 0 ≤ n ∧ n ≤ 1048576 := by
  unfold checkI at h
  obtain ⟨h1, h⟩ := peel (by decide) h
  obtain ⟨h2, h⟩ := peel (by decide) h
  obtain ⟨h3, h⟩ := peel (by decide) h
  obtain ⟨h4, h⟩ := peel (by decide) h
  obtain ⟨h5, h⟩ := peel (by decide) h
  obtain ⟨h6, h⟩ := peel (by decide) h
  obtain ⟨h7, h⟩ := peel (by decide) h
  obtain ⟨h8, h⟩ := peel (by decide) h
  obtain ⟨h9, h⟩ := peel (by decide) h
  obtain ⟨h10, h⟩ := peel (by decide) h
  obtain ⟨h11, h⟩ := peel (by decide) h
  obtain ⟨h12, h⟩ := peel (by decide) h
  refine ⟨by omega, by omega, by omega, by omega, by omega, by simpa using h6, ?_, Decidable.not_not.1 h8, ?_, by omega, ?_, fun n hn => ?_⟩
  · by_cases hd : x.d = 0
    · exact .inr hd
    · refine .inl ?_
      generalize x.c = c at *
      obtain ⟨a, b, d⟩ := c
      dsimp only at h7
      have : a = 0 ∧ b = 0 ∧ d = 0 := by omega
      obtain ⟨rfl, rfl, rfl⟩ := this
      rfl
  · by_cases hd : x.d = 0
    · exact .inr hd
    · exact .inl (List.eq_nil_of_length_eq_zero (by omega))
  · by_cases hd : x.d = 7
    · exact .inr hd
    · exact .inl (List.eq_nil_of_length_eq_zero (by omega))
  · have : odd1 n = false := by
      cases ho : odd1 n
      · rfl
      · exact absurd (List.any_eq_true.2 ⟨n, hn, ho⟩) h12
    simp only [odd1, decide_eq_false_iff_not] at this
    omega
theorem numIf_put {p q : Prop} [Decidable p] [Decidable q] (hpq : q ↔ p) {n most : Nat} (r : List UInt8) (hn : n ≤ most) (hm : most < 18446744073709551616) (h0 : n = 0 ∨ q) : numIf p ((if q then vput n else []) ++ r, 0) most = (n, r, 0) := by
  unfold numIf
  by_cases h : p
  · rw [if_pos h, if_pos (hpq.2 h), numR_put _ hn hm]
  · have hq : ¬ q := fun x => h (hpq.1 x)
    rw [if_neg h, if_neg hq, List.nil_append, h0.resolve_right hq]
theorem numIf_inv {p : Prop} [Decidable p] {s : Rst} {most n : Nat} {r : List UInt8} (h : numIf p s most = (n, r, 0)) : s.2 = 0 ∧ s.1 = (if p then vput n else []) ++ r ∧ n ≤ most ∧ (n = 0 ∨ p) := by
  unfold numIf at h
  split at h
  · rename_i hp
    obtain ⟨a, b, c⟩ := numR_inv (by decide) h
    rw [if_pos hp]
    exact ⟨a, b, c, .inr hp⟩
  · rename_i hp
    simp only [Prod.mk.injEq] at h
    obtain ⟨rfl, rfl⟩ := h
    rw [if_neg hp]
    exact ⟨rfl, rfl, Nat.zero_le _, .inl rfl⟩
theorem clockIf_inv {p : Prop} [Decidable p] {s : Rst} {c : Clk} {r : List UInt8} (h : clockIf p s = (c, r, 0)) : s.2 = 0 ∧ s.1 = (if p then (cputF ⟨0, 0, 0⟩ c).1 else []) ++ r := by
  unfold clockIf at h
  split at h
  · rename_i hp
    rw [if_pos hp]
    exact clockR_inv h
  · rename_i hp
    simp only [Prod.mk.injEq] at h
    obtain ⟨rfl, rfl⟩ := h
    rw [if_neg hp]
    exact ⟨rfl, rfl⟩
theorem bytesI_eq (x : It) : bytesI x = vput x.d.toNat ++ ((if x.d < 3 ∨ x.d = 7 ∨ x.d = 8 then vput x.o.toNat else []) ++ ((if 3 ≤ x.d ∧ x.d ≤ 6 ∨ x.d = 8 then vput x.n.toNat else []) ++ ((if x.d = 6 then vput x.a.toNat else []) ++ ((if x.d = 6 then vput x.m.toNat else []) ++
    ((if x.d = 0 then (cputF ⟨0, 0, 0⟩ x.c).1 else []) ++ ((if x.d = 0 then vput x.w.length else []) ++ ((if x.d = 0 then x.w.flatMap textF else []) ++ ((if x.d = 7 then vput x.k.length else []) ++ ((if x.d = 7 then x.k.flatMap fun n => vput n.toNat else []) ++ []))))))))) := by
  unfold bytesI whoB numB atB depB keptB
  by_cases h6 : x.d = 6
  · simp [h6]
  by_cases h0 : x.d = 0
  · simp [h0]
  by_cases h7 : x.d = 7
  · simp [h7]
  · simp [h6, h0, h7]
theorem readI_bytes {x : It} (h : checkI x = 0) (hm : 0 ≤ x.m ∧ x.m < 4294967296) : readI (bytesI x) = (x, 0) := by
  obtain ⟨⟨d0, d1⟩, ⟨o0, o1, o2⟩, ⟨n0, n1, n2⟩, ⟨a0, a1, a2⟩, m2, hr, c2, hw, w2, k1, k2, k3⟩ := checkI_ok h
  obtain ⟨w1, w3⟩ := wok_of hw
  rw [bytesI_eq]
  have hfin : ∀ (y : It) (k : Rst), y = x → k = ([], 0) → (y, endI y k) = (x, 0) := by
    intro y k e1 e2
    subst e1 e2
    have : endI y ([], 0) = 0 := by unfold endI; simp [h]
    rw [this]
  refine (readI_of (numR_put _ (by omega) (by omega)) rfl (numIf_put (by omega) _ (by omega) (by omega) (by omega)) (numIf_put (by omega) _ (by omega) (by omega) (by omega)) (numIf_put (by omega) _ (by omega) (by omega) (by omega)) (numIf_put (by omega) _ (by omega) (by omega) (by omega))
    (c := x.c) (s5 := ((if x.d = 0 then vput x.w.length else []) ++ ((if x.d = 0 then x.w.flatMap textF else []) ++ ((if x.d = 7 then vput x.k.length else []) ++ ((if x.d = 7 then x.k.flatMap fun n => vput n.toNat else []) ++ []))), 0)) ?_
    (numIf_put (by omega) _ (by omega) (by omega) (by rcases w2 with h | h <;> simp [h])) (w := x.w) (s7 := ((if x.d = 7 then vput x.k.length else []) ++ ((if x.d = 7 then x.k.flatMap fun n => vput n.toNat else []) ++ []), 0)) ?_
    (numIf_put (by omega) _ (by omega) (by omega) (by rcases k2 with h | h <;> simp [h])) (k := x.k) (s9 := ([], 0)) ?_).trans (hfin _ _ ?_ rfl)
  · unfold clockIf
    by_cases hd : x.d = 0
    · rw [if_pos (by omega), if_pos hd, clockR_put _ _ hr]
    · rw [if_neg (by omega), if_neg hd, c2.resolve_right hd]; rfl
  · by_cases hd : x.d = 0
    · rw [if_pos hd, writesR_put _ _ w3]
    · rw [if_neg hd, w2.resolve_right hd]; rfl
  · by_cases hd : x.d = 7
    · rw [if_pos hd, keptR_put _ _ fun n hn => ⟨(k3 n hn).1, by have := (k3 n hn).2; omega⟩]
    · rw [if_neg hd, k2.resolve_right hd]; rfl
  · obtain ⟨d, o, n, a, m, c, w, k⟩ := x
    simp only [It.mk.injEq, and_true]
    dsimp only at *
    omega
theorem bytes_readI {b : List UInt8} {x : It} (h : readI b = (x, 0)) : checkI x = 0 ∧ bytesI x = b ∧ 0 ≤ x.m ∧ x.m < 4294967296 := by
  obtain ⟨d, s0, h0⟩ : ∃ d s, numR (b, 0) 8 3 = (d, s) := ⟨_, _, rfl⟩
  by_cases hd : s0.2 = 0
  · obtain ⟨o, s1, h1⟩ : ∃ o s, numIf (d < 3 ∨ d = 7 ∨ d = 8) s0 4611686018427387903 = (o, s) := ⟨_, _, rfl⟩
    obtain ⟨n, s2, h2⟩ : ∃ o s, numIf (3 ≤ d ∧ d ≤ 6 ∨ d = 8) s1 4611686018427387903 = (o, s) := ⟨_, _, rfl⟩
    obtain ⟨a, s3, h3⟩ : ∃ o s, numIf (d = 6) s2 4611686018427387903 = (o, s) := ⟨_, _, rfl⟩
    obtain ⟨m, s4, h4⟩ : ∃ o s, numIf (d = 6) s3 4294967295 = (o, s) := ⟨_, _, rfl⟩
    obtain ⟨c, s5, h5⟩ : ∃ o s, clockIf (d = 0) s4 = (o, s) := ⟨_, _, rfl⟩
    obtain ⟨q, s6, h6⟩ : ∃ o s, numIf (d = 0) s5 16 = (o, s) := ⟨_, _, rfl⟩
    obtain ⟨w, s7, h7⟩ : ∃ o s, writesR q s6 = (o, s) := ⟨_, _, rfl⟩
    obtain ⟨j, s8, h8⟩ : ∃ o s, numIf (d = 7) s7 4 = (o, s) := ⟨_, _, rfl⟩
    obtain ⟨k, s9, h9⟩ : ∃ o s, keptR j s8 = (o, s) := ⟨_, _, rfl⟩
    rw [readI_of h0 hd h1 h2 h3 h4 h5 h6 h7 h8 h9] at h
    simp only [Prod.mk.injEq] at h
    obtain ⟨hx, he⟩ := h
    rw [hx] at he
    obtain ⟨r9, e9⟩ := s9
    unfold endI at he
    dsimp only at he
    split at he
    · rename_i h'; exact absurd he h'
    rename_i e90
    split at he
    · cases he
    rename_i r90
    have e90 := Decidable.not_not.1 e90
    obtain rfl : r9 = [] := List.eq_nil_of_length_eq_zero (by omega)
    subst e90
    obtain ⟨a9, b9, c9⟩ := keptR_inv _ h9
    obtain ⟨r8, e8⟩ := s8; dsimp only at a9 b9; subst a9 b9
    obtain ⟨a8, b8, c8, d8⟩ := numIf_inv h8
    obtain ⟨r7, e7⟩ := s7; dsimp only at a8 b8; subst a8 b8
    obtain ⟨a7, b7, c7⟩ := writesR_inv _ h7
    obtain ⟨r6, e6⟩ := s6; dsimp only at a7 b7; subst a7 b7
    obtain ⟨a6, b6, c6, d6⟩ := numIf_inv h6
    obtain ⟨r5, e5⟩ := s5; dsimp only at a6 b6; subst a6 b6
    obtain ⟨a5, b5⟩ := clockIf_inv h5
    obtain ⟨r4, e4⟩ := s4; dsimp only at a5 b5; subst a5 b5
    obtain ⟨a4, b4, c4, d4⟩ := numIf_inv h4
    obtain ⟨r3, e3⟩ := s3; dsimp only at a4 b4; subst a4 b4
    obtain ⟨a3, b3, c3, d3⟩ := numIf_inv h3
    obtain ⟨r2, e2⟩ := s2; dsimp only at a3 b3; subst a3 b3
    obtain ⟨a2, b2, c2, d2⟩ := numIf_inv h2
    obtain ⟨r1, e1⟩ := s1; dsimp only at a2 b2; subst a2 b2
    obtain ⟨a1, b1, c1, d1⟩ := numIf_inv h1
    obtain ⟨r0, e0⟩ := s0; dsimp only at a1 b1; subst a1 b1
    obtain ⟨a0, b0, c0⟩ := numR_inv (by decide) h0
    dsimp only at b0
    refine ⟨he, ?_, by rw [← hx]; dsimp only; omega, by rw [← hx]; dsimp only; omega⟩
    rw [bytesI_eq, b0, ← hx]
    dsimp only
    have i1 : ((d : Int) < 3 ∨ (d : Int) = 7 ∨ (d : Int) = 8) = (d < 3 ∨ d = 7 ∨ d = 8) := propext (by omega)
    have i2 : (3 ≤ (d : Int) ∧ (d : Int) ≤ 6 ∨ (d : Int) = 8) = (3 ≤ d ∧ d ≤ 6 ∨ d = 8) := propext (by omega)
    have i3 : ((d : Int) = 6) = (d = 6) := propext (by omega)
    have i4 : ((d : Int) = 0) = (d = 0) := propext (by omega)
    have i5 : ((d : Int) = 7) = (d = 7) := propext (by omega)
    simp only [i1]
    simp only [i2]
    simp only [i3, i4, i5, Int.toNat_natCast]
    have f1 : (if d = 0 then w.flatMap textF else []) = w.flatMap textF := by
      split
      · rfl
      · have : w.length = 0 := by omega
        rw [List.eq_nil_of_length_eq_zero this]; rfl
    have f2 : (if d = 7 then k.flatMap (fun n => vput n.toNat) else []) = k.flatMap (fun n => vput n.toNat) := by
      split
      · rfl
      · have : k.length = 0 := by omega
        rw [List.eq_nil_of_length_eq_zero this]; rfl
    rw [f1, f2, c7, c9]
  · rw [readI_err h0 hd] at h
    simp only [Prod.mk.injEq] at h
    exact absurd h.2 hd
def ItM (x : It) : Prop := 0 ≤ x.m ∧ x.m < 4294967296
theorem rowsI_0 : ∀ {l : List It} {r : List (List UInt8)}, rowsI l = (r, 0) → r = l.map bytesI ∧ ∀ x ∈ l, checkI x = 0
  | [], r, h => by
    unfold rowsI at h
    simp only [Prod.mk.injEq, and_true] at h
    subst h
    exact ⟨rfl, fun x hx => by simp at hx⟩
  | x :: l, r, h => by
    unfold rowsI at h
    split at h
    · rename_i h1; simp only [Prod.mk.injEq] at h; exact absurd h.2 h1
    rename_i h1
    split at h
    · rename_i h2; simp only [Prod.mk.injEq] at h; exact absurd h.2 h2
    rename_i h2
    simp only [Prod.mk.injEq, and_true] at h
    obtain ⟨a, b⟩ := rowsI_0 (l := l) (r := (rowsI l).1) (by rw [← Decidable.not_not.1 h2])
    refine ⟨by rw [← h, a]; rfl, fun y hy => ?_⟩
    rcases List.mem_cons.1 hy with rfl | hy
    · exact Decidable.not_not.1 h1
    · exact b y hy
theorem rowsI_of : ∀ {l : List It}, (∀ x ∈ l, checkI x = 0) → rowsI l = (l.map bytesI, 0)
  | [], _ => rfl
  | x :: l, h => by
    unfold rowsI
    rw [if_neg (by rw [h x (by simp)]; simp), rowsI_of fun y hy => h y (by simp [hy])]
    simp
theorem readsI_of : ∀ {l : List It}, (∀ x ∈ l, checkI x = 0 ∧ ItM x) → readsI (l.map bytesI) = (l, 0)
  | [], _ => rfl
  | x :: l, h => by
    obtain ⟨h1, h2⟩ := h x (by simp)
    rw [List.map_cons]
    unfold readsI
    rw [readI_bytes h1 h2, readsI_of fun y hy => h y (by simp [hy])]
    simp
theorem readsI_0 : ∀ {r : List (List UInt8)} {l : List It}, readsI r = (l, 0) → l.map bytesI = r ∧ ∀ x ∈ l, checkI x = 0 ∧ ItM x
  | [], l, h => by
    unfold readsI at h
    simp only [Prod.mk.injEq, and_true] at h
    subst h
    exact ⟨rfl, fun x hx => by simp at hx⟩
  | b :: r, l, h => by
    unfold readsI at h
    split at h
    · rename_i h1; simp only [Prod.mk.injEq] at h; exact absurd h.2 h1
    rename_i h1
    split at h
    · rename_i h2; simp only [Prod.mk.injEq] at h; exact absurd h.2 h2
    rename_i h2
    simp only [Prod.mk.injEq, and_true] at h
    obtain ⟨a, c⟩ := readsI_0 (r := r) (l := (readsI r).1) (by rw [← Decidable.not_not.1 h2])
    obtain ⟨g1, g2, g3⟩ := bytes_readI (b := b) (x := (readI b).1) (by rw [← Decidable.not_not.1 h1])
    subst h
    refine ⟨by rw [List.map_cons, a, g2], fun y hy => ?_⟩
    rcases List.mem_cons.1 hy with rfl | hy
    · exact ⟨g1, g3⟩
    · exact c y hy
theorem scanN_end (b : List UInt8) : ∀ (k used : Nat) (out : List (List UInt8)), used ≤ b.length → b.length < used + k → (scanN b k out used).2.2 = 0 → (scanN b k out used).2.1 = b.length
  | 0, used, out, h1, h2, _ => by omega
  | k + 1, used, out, h1, h2, h3 => by
    unfold scanN at h3 ⊢
    split
    · assumption
    rename_i g1
    rw [if_neg g1] at h3
    split
    · rename_i g2
      rw [if_pos g2] at h3
      exact absurd h3 g2
    · rename_i g2
      rw [if_neg g2] at h3
      have := nextF_len (b.drop used)
      have h5 := this.2 (Decidable.not_not.1 g2)
      rw [List.length_drop] at this
      exact scanN_end b k _ _ (by omega) (by omega) h3
theorem scanF_end {b : List UInt8} (h : (scanF b).2.2 = 0) : Fits (scanF b).1 ∧ frow (scanF b).1 = b := by
  obtain ⟨h1, h2, h3⟩ := scanF_back b
  have := scanN_end b (b.length + 1) 0 [] (Nat.zero_le _) (by omega) h
  refine ⟨h1, ?_⟩
  rw [h3]
  show b.take (scanN b (b.length + 1) [] 0).2.1 = b
  rw [this, List.take_length]
theorem put_takeI {b : List UInt8} {l : List It} (h : takeI b = (l, 0)) : putI l = (b, 0) ∧ l.length ≤ 300 ∧ ∀ x ∈ l, checkI x = 0 ∧ ItM x := by
  unfold takeI at h
  split at h
  · rename_i h1; simp only [Prod.mk.injEq] at h; exact absurd h.2 h1
  rename_i h1
  split at h
  · simp at h
  rename_i h2
  obtain ⟨g1, g2⟩ := readsI_0 h
  obtain ⟨g3, g4⟩ := scanF_end (Decidable.not_not.1 h1)
  have hl : l.length = (scanF b).1.length := by rw [← g1, List.length_map]
  refine ⟨?_, by omega, g2⟩
  unfold putI
  rw [if_neg (by omega), rowsI_of fun x hx => (g2 x hx).1]
  dsimp only
  rw [if_neg (by simp), g1]
  unfold allF
  rw [allN_fits _ _ g3, g4]
  rfl
theorem take_putI {l : List It} {b : List UInt8} (hm : ∀ x ∈ l, ItM x) (h : putI l = (b, 0)) : takeI b = (l, 0) := by
  unfold putI at h
  split at h
  · simp at h
  rename_i h1
  split at h
  · rename_i h2; simp only [Prod.mk.injEq] at h; exact absurd h.2 h2
  rename_i h2
  obtain ⟨g1, g2⟩ := rowsI_0 (l := l) (r := (rowsI l).1) (by rw [← Decidable.not_not.1 h2])
  rw [g1] at h
  unfold allF at h
  by_cases hf : Fits (l.map bytesI)
  · rw [allN_fits _ _ hf, List.nil_append] at h
    simp only [Prod.mk.injEq, and_true] at h
    have := scanF_frow _ [] hf (.inl rfl)
    rw [List.append_nil, if_pos rfl, h] at this
    unfold takeI
    rw [this]
    dsimp only
    rw [if_neg (by simp), if_neg (by rw [List.length_map]; omega), readsI_of fun x hx => ⟨g2 x hx, hm x hx⟩]
  · rw [allN_not _ _ hf] at h
    simp at h
theorem takeI_err {b : List UInt8} (h : (takeI b).2 ≠ 0) : (takeI b).1 = [] := by
  unfold takeI at h ⊢
  split
  · rfl
  rename_i h1
  rw [if_neg h1] at h
  split
  · rfl
  rename_i h2
  rw [if_neg h2] at h
  revert h
  generalize (scanF b).1 = r
  intro h
  cases r with
  | nil => rfl
  | cons p r =>
    unfold readsI at h ⊢
    split
    · rfl
    rename_i h3
    rw [if_neg h3] at h
    split
    · rfl
    rename_i h4
    rw [if_neg h4] at h
    exact absurd rfl h
theorem putI_err {l : List It} (h : (putI l).2 ≠ 0) : (putI l).1 = [] := by
  unfold putI at h ⊢
  split
  · rfl
  rename_i h1
  rw [if_neg h1] at h
  split
  · rfl
  rename_i h2
  rw [if_neg h2] at h
  unfold allF at h ⊢
  by_cases hf : Fits (rowsI l).1
  · rw [allN_fits _ _ hf] at h
    exact absurd rfl h
  · rw [allN_not _ _ hf]
end Go.Proofs.YtgfnpcmehnjopaaDoor
end
section
namespace Go.Proofs.YtgfnpcmehnjopaaDoor
open Go Go.RowKit
set_option linter.unusedVariables false
set_option linter.unusedSimpArgs false
variable {K : Nat → Obj → Prop}
def joinI (acc : List It) (r : List It × Int) : List It × Int := if r.2 ≠ 0 then ([], r.2) else (acc ++ r.1, 0)
theorem readsI_z {l : List (List UInt8)} (h : (readsI l).2 ≠ 0) : (readsI l).1 = [] := by
  cases l with
  | nil => exact absurd rfl h
  | cons x l =>
    unfold readsI at h ⊢
    split
    · rfl
    rename_i h1
    rw [if_neg h1] at h
    split
    · rfl
    rename_i h2
    rw [if_neg h2] at h
    exact absurd rfl h
theorem joinI_nil (l : List (List UInt8)) : joinI [] (readsI l) = readsI l := by
  unfold joinI
  split
  · rename_i h
    rw [← readsI_z h]
  · rename_i h
    have h := Decidable.not_not.1 h
    rw [List.nil_append, ← h]
theorem joinI_cons (acc : List It) (x : List UInt8) (l : List (List UInt8)) : joinI acc (readsI (x :: l)) = if (readI x).2 ≠ 0 then ([], (readI x).2) else joinI (acc ++ [(readI x).1]) (readsI l) := by
  rw [readsI]
  by_cases h1 : (readI x).2 ≠ 0
  · rw [if_pos h1, if_pos h1]; unfold joinI; rw [if_pos h1]
  · rw [if_neg h1, if_neg h1]
    by_cases h2 : (readsI l).2 ≠ 0
    · rw [if_pos h2]; unfold joinI; rw [if_pos h2, if_pos h2]
    · rw [if_neg h2]; unfold joinI; rw [if_neg (by simp), if_neg h2]; simp
theorem its_ap (l m : List It) : its (l ++ m) = its l ++ its m := by simp [its]
theorem its_on (x : It) : its [x] = [x.D] := rfl
abbrev itsV (r : List It × Int) : V := .tup [.sl 10 (its r.1), .sc (.int .i64 r.2)]
end Go.Proofs.YtgfnpcmehnjopaaDoor
end
section
namespace Go.Proofs.YtgfnpcmehnjopaaDoor
open Go Go.RowKit
set_option linter.unusedVariables false
set_option linter.unusedSimpArgs false
variable {K : Nat → Obj → Prop}
def TT (K : Nat → Obj → Prop) : Prop := ∃ (arr : Array Value) (T : TypeId) (fr : Nat × Nat), K 0 (.cells arr T fr) ∧ ∀ i : Nat, i < 9 → arr[i]? = some (.int .i64 (tl i))
theorem TT.tab {w : World} (h : TT K) (hk : Knw K w) : TabT w ∧ 0 < w.heap.size := by
  obtain ⟨arr, T, fr, h1, h2⟩ := h
  exact ⟨fun i hi => (cell_of w _ _ _).2 ⟨arr, T, fr, hk _ _ h1, h2 i hi⟩, (Array.getElem?_eq_some_iff.1 (hk _ _ h1)).1⟩
theorem has_s (hT : TT K) (x : It) (hd : 0 ≤ x.d ∧ x.d ≤ 8) (part : Int) (h : List Ho) : Sp Tryd.prog K 52 [itV x, .sc (.int .i64 part)] h fun u hh => u = .sc (.bool (decide (bits .and .i64 (tl x.d.toNat) part ≠ 0))) ∧ hh = h :=
  .ofVK (fun F φ w => .d (.sc rfl)) fun F φ w args hk hd2 => by
    obtain ⟨r, s, rfl, h1, h2⟩ := args2 hd2
    obtain ⟨rs, rfl, e1, e2, e3⟩ := h1.aggInv
    rw [h2.sc.1]
    obtain ⟨g1, g2⟩ := hT.tab hk
    obtain ⟨r0, hr⟩ : ∃ r, rs[0]? = some r := ⟨rs[0]'(by rw [e1]; simp), Array.getElem?_eq_getElem _⟩
    have := (e3 0 r0 _ hr rfl).sc.1
    subst this
    exact has_c x.d part rs w g1 hd.1 (by omega) hr g2
theorem tl_1 : ∀ n : Nat, n < 9 → ((bits .and .i64 (tl n) 1 ≠ 0) ↔ n < 2) := by decide
theorem tl_2 : ∀ n : Nat, n < 9 → ((bits .and .i64 (tl n) 2 ≠ 0) ↔ n = 2 ∨ n = 7 ∨ n = 8) := by decide
theorem tl_3 : ∀ n : Nat, n < 9 → ((bits .and .i64 (tl n) 3 ≠ 0) ↔ n < 3 ∨ n = 7 ∨ n = 8) := by decide
theorem tl_4 : ∀ n : Nat, n < 9 → ((bits .and .i64 (tl n) 4 ≠ 0) ↔ 3 ≤ n ∧ n ≤ 6 ∨ n = 8) := by decide
theorem tl_8 : ∀ n : Nat, n < 9 → ((bits .and .i64 (tl n) 8 ≠ 0) ↔ n = 6) := by decide
theorem tl_16 : ∀ n : Nat, n < 9 → ((bits .and .i64 (tl n) 16 ≠ 0) ↔ n = 6) := by decide
theorem tl_32 : ∀ n : Nat, n < 9 → ((bits .and .i64 (tl n) 32 ≠ 0) ↔ n = 0) := by decide
theorem tl_64 : ∀ n : Nat, n < 9 → ((bits .and .i64 (tl n) 64 ≠ 0) ↔ n = 0) := by decide
theorem tl_128 : ∀ n : Nat, n < 9 → ((bits .and .i64 (tl n) 128 ≠ 0) ↔ n = 7) := by decide
def Tells (part : Int) (p : Int → Prop) : Prop := ∀ d : Int, 0 ≤ d → d ≤ 8 → ((bits .and .i64 (tl d.toNat) part ≠ 0) ↔ p d)
theorem tells_of {part : Int} {p : Int → Prop} {q : Nat → Prop} (h : ∀ n : Nat, n < 9 → ((bits .and .i64 (tl n) part ≠ 0) ↔ q n)) (hpq : ∀ n : Nat, q n ↔ p n) : Tells part p := fun d h0 h8 => by
  rw [h _ (by omega), hpq, show ((d.toNat : Nat) : Int) = d by omega]
theorem tells_1 : Tells 1 fun d => d < 2 := tells_of tl_1 fun n => by omega
theorem tells_2 : Tells 2 fun d => d = 2 ∨ d = 7 ∨ d = 8 := tells_of tl_2 fun n => by omega
theorem tells_3 : Tells 3 fun d => d < 3 ∨ d = 7 ∨ d = 8 := tells_of tl_3 fun n => by omega
theorem tells_4 : Tells 4 fun d => 3 ≤ d ∧ d ≤ 6 ∨ d = 8 := tells_of tl_4 fun n => by omega
theorem tells_8 : Tells 8 fun d => d = 6 := tells_of tl_8 fun n => by omega
theorem tells_16 : Tells 16 fun d => d = 6 := tells_of tl_16 fun n => by omega
theorem tells_32 : Tells 32 fun d => d = 0 := tells_of tl_32 fun n => by omega
theorem tells_64 : Tells 64 fun d => d = 0 := tells_of tl_64 fun n => by omega
theorem tells_128 : Tells 128 fun d => d = 7 := tells_of tl_128 fun n => by omega
theorem hasP (hT : TT K) {part : Int} {p : Int → Prop} (ht : Tells part p) (x : It) (hd : 0 ≤ x.d ∧ x.d ≤ 8) [Decidable (p x.d)] (h : List Ho) : Sp Tryd.prog K 52 [itV x, .sc (.int .i64 part)] h fun u hh => u = .sc (.bool (decide (p x.d))) ∧ hh = h := by
  have := has_s hT x hd part h
  rwa [decide_eq_decide.2 (ht x.d hd.1 hd.2)] at this
set_option maxRecDepth 100000 in
theorem within_s (n most : Int) (b : Bool) (h : List Ho) : Sp Tryd.prog K 51 [.sc (.int .i64 n), .sc (.int .i64 most), .sc (.bool b)] h fun u hh => u = .sc (.bool (decide (n = 0 ∨ b = true ∧ 0 < n ∧ n ≤ most))) ∧ hh = h := by
  refine Sp.lift (vs := [.sc (.int .i64 n), .sc (.int .i64 most), .sc (.bool b)]) ?_ (fun _ => rfl) (fun _ => rfl) h
  cases b with
  | true =>
    refine Sp.of_bodyE Tryd.func51 rfl ?_
    intro Q hQ
    simp only [List.replicate, List.length_cons, List.length_nil, Tryd.ntmps51, Nat.reduceAdd, Nat.reduceSub, List.cons_append, List.nil_append, go_sem]
    have hz : True := trivial
    have hy := yieldedV_eq
    have hL := True.intro
    repeat' (first | (refine WPV.seqK ?_; intro N hN) | refine gA ?_ | (refine gR (M := noM) ?_; intro N hN ops hy) | (refine gD (M := noM) ?_; intro N hN; have hy := yieldedV_eq) | (refine WPV.condK ?_; intro A hA B hB) | (refine here ?_; refine sS ?_) | refine Both.mk ?_ ?_ | (refine hN _ ?_; try clear hN N; try clear hy ops) | (refine hA ?_; clear hA A hB B; try simp only [hz]) | (refine hB ?_; clear hA A hB B; try simp only [hz]) | (refine gG ?_ ?_ <;> (intro hz; have h := nm hz; try (exfalso; omega)) <;> (have hz := nz hz; try subst hz)) | (rw [if_pos (show _ ∧ _ from ⟨by omega, by omega⟩)]; refine sS ?_) | refine gT ?_ | (clear hN N))
    all_goals (first | exact retZ hQ Tryd.results51 (Desc.re [] rfl) | exact retZN hQ Tryd.results51 (Desc.re [] rfl))
  | false =>
    refine Sp.of_bodyE Tryd.func51 rfl ?_
    intro Q hQ
    simp only [List.replicate, List.length_cons, List.length_nil, Tryd.ntmps51, Nat.reduceAdd, Nat.reduceSub, List.cons_append, List.nil_append, go_sem]
    have hz : True := trivial
    have hy := yieldedV_eq
    have hL := True.intro
    repeat' (first | (refine WPV.seqK ?_; intro N hN) | refine gA ?_ | (refine gR (M := noM) ?_; intro N hN ops hy) | (refine gD (M := noM) ?_; intro N hN; have hy := yieldedV_eq) | (refine WPV.condK ?_; intro A hA B hB) | (refine here ?_; refine sS ?_) | refine Both.mk ?_ ?_ | (refine hN _ ?_; try clear hN N; try clear hy ops) | (refine hA ?_; clear hA A hB B; try simp only [hz]) | (refine hB ?_; clear hA A hB B; try simp only [hz]) | (refine gG ?_ ?_ <;> (intro hz; have h := nm hz; try (exfalso; omega)) <;> (have hz := nz hz; try subst hz)) | (rw [if_pos (show _ ∧ _ from ⟨by omega, by omega⟩)]; refine sS ?_) | refine gT ?_ | (clear hN N))
    all_goals (first | exact retZ hQ Tryd.results51 (Desc.re [] rfl) | exact retZN hQ Tryd.results51 (Desc.re [] rfl))
set_option maxRecDepth 100000 in
set_option maxHeartbeats 1000000 in
theorem who_s (hT : TT K) (x : It) (hd : 0 ≤ x.d ∧ x.d ≤ 8) : Sp Tryd.prog K 50 [itV x] [] fun u hh => u = .sc (.bool (decide (x.d < 2 ∧ 0 ≤ x.o ∧ x.o < 3 ∨ (x.d = 2 ∨ x.d = 7 ∨ x.d = 8) ∧ 0 ≤ x.o ∧ x.o ≤ 3 ∨ x.o = 0))) ∧ hh = [] := by
  have c1 := fun h => hasP hT tells_1 x hd h
  have c2 := fun h => hasP hT tells_2 x hd h
  obtain ⟨d, o, n, a, m, ⟨cx, cy, cz⟩, w, k⟩ := x
  dsimp only at c1 c2 hd ⊢
  refine Sp.of_bodyE Tryd.func50 rfl ?_
  intro Q hQ
  simp only [List.replicate, List.length_cons, List.length_nil, Tryd.ntmps50, Nat.reduceAdd, Nat.reduceSub, List.cons_append, List.nil_append, go_sem]
  have hz : True := trivial
  have hy := yieldedV_eq
  have hL := True.intro
  repeat' (first | (refine WPV.seqK ?_; intro N hN) | refine gA ?_ | (refine gR (M := noM) ?_; intro N hN ops hy) | (refine gD (M := noM) ?_; intro N hN; have hy := yieldedV_eq) | (refine WPV.condK ?_; intro A hA B hB) | (refine here ?_; refine sS ?_) | refine Both.mk ?_ ?_ | ((with_reducible refine CallO.gd 52 ?_); first | refine CallO.toB Tryd.call52 (c1 _) ?_ | refine CallO.toB Tryd.call52 (c2 _) ?_) | ((with_reducible refine CallP.gd 52 ?_); first | refine CallP.toB Tryd.call52 (c1 _) ?_ | refine CallP.toB Tryd.call52 (c2 _) ?_) | (refine hN _ ?_; try clear hN N; try clear hy ops) | (refine hA ?_; clear hA A hB B; try simp only [hz]) | (refine hB ?_; clear hA A hB B; try simp only [hz]) | (refine gG ?_ ?_ <;> (intro hz; have h := nm hz; try (exfalso; omega)) <;> (have hz := nz hz; try subst hz)) | (rw [if_pos (show _ ∧ _ from ⟨by omega, by omega⟩)]; refine sS ?_) | refine gT ?_ | (clear hN N))
  all_goals (first | exact retZ hQ Tryd.results50 (Desc.re [] rfl) | exact retZN hQ Tryd.results50 (Desc.re [] rfl))
end Go.Proofs.YtgfnpcmehnjopaaDoor
end
section
namespace Go.Proofs.YtgfnpcmehnjopaaDoor
open Go Go.RowKit
set_option linter.unusedVariables false
set_option linter.unusedSimpArgs false
variable {K : Nat → Obj → Prop}
def fix (p : Int → Bool) : List Int → Nat → Int
  | [], _ => -1
  | a :: l, k => if p a = true then (k : Int) else fix p l (k + 1)
theorem fix_any (p : Int → Bool) : ∀ (l : List Int) (k : Nat), decide (0 ≤ fix p l k) = l.any p
  | [], k => by simp [fix]
  | a :: l, k => by
    unfold fix
    rw [List.any_cons]
    cases h : p a with
    | true => simp
    | false => simpa using fix_any p l (k + 1)
set_option maxRecDepth 100000 in
theorem odd1_s (n : Int) (h : List Ho) : Sp Tryd.prog K 56 [.sc (.int .i64 n)] h fun u hh => u = .sc (.bool (odd1 n)) ∧ hh = h := by
  refine Sp.lift (vs := [.sc (.int .i64 n)]) ?_ (fun _ => rfl) (fun _ => rfl) h
  unfold odd1
  by_cases h1 : n < 0 ∨ 1048576 < n
  · have e : ¬ (n = 0 ∨ true = true ∧ 0 < n ∧ n ≤ 1048576) := by simp; omega
    have cw := within_s (K := K) n 1048576 true
    rw [decide_eq_false e] at cw
    rw [decide_eq_true h1]
    refine Sp.of_bodyE Tryd.func56 rfl ?_
    intro Q hQ
    simp only [List.replicate, List.length_cons, List.length_nil, Tryd.ntmps56, Nat.reduceAdd, Nat.reduceSub, List.cons_append, List.nil_append, go_sem]
    have hz : True := trivial
    have hy := yieldedV_eq
    have hL := True.intro
    repeat' (first | (refine WPV.seqK ?_; intro N hN) | refine gA ?_ | (refine gR (M := noM) ?_; intro N hN ops hy) | (refine gD (M := noM) ?_; intro N hN; have hy := yieldedV_eq) | (refine WPV.condK ?_; intro A hA B hB) | (refine here ?_; refine sS ?_) | refine Both.mk ?_ ?_ | ((with_reducible refine CallO.gd 51 ?_); refine CallO.toB Tryd.call51 (cw _) ?_) | ((with_reducible refine CallP.gd 51 ?_); refine CallP.toB Tryd.call51 (cw _) ?_) | (refine hN _ ?_; try clear hN N; try clear hy ops) | (refine hA ?_; clear hA A hB B; try simp only [hz]) | (refine hB ?_; clear hA A hB B; try simp only [hz]) | (refine gG ?_ ?_ <;> (intro hz; have h := nm hz; try (exfalso; omega)) <;> (have hz := nz hz; try subst hz)) | (rw [if_pos (show _ ∧ _ from ⟨by omega, by omega⟩)]; refine sS ?_) | refine gT ?_ | (clear hN N))
    all_goals (first | exact retZ hQ Tryd.results56 (Desc.re [] rfl) | exact retZN hQ Tryd.results56 (Desc.re [] rfl))
  · have e : (n = 0 ∨ true = true ∧ 0 < n ∧ n ≤ 1048576) := by simp; omega
    have cw := within_s (K := K) n 1048576 true
    rw [decide_eq_true e] at cw
    rw [decide_eq_false h1]
    refine Sp.of_bodyE Tryd.func56 rfl ?_
    intro Q hQ
    simp only [List.replicate, List.length_cons, List.length_nil, Tryd.ntmps56, Nat.reduceAdd, Nat.reduceSub, List.cons_append, List.nil_append, go_sem]
    have hz : True := trivial
    have hy := yieldedV_eq
    have hL := True.intro
    repeat' (first | (refine WPV.seqK ?_; intro N hN) | refine gA ?_ | (refine gR (M := noM) ?_; intro N hN ops hy) | (refine gD (M := noM) ?_; intro N hN; have hy := yieldedV_eq) | (refine WPV.condK ?_; intro A hA B hB) | (refine here ?_; refine sS ?_) | refine Both.mk ?_ ?_ | ((with_reducible refine CallO.gd 51 ?_); refine CallO.toB Tryd.call51 (cw _) ?_) | ((with_reducible refine CallP.gd 51 ?_); refine CallP.toB Tryd.call51 (cw _) ?_) | (refine hN _ ?_; try clear hN N; try clear hy ops) | (refine hA ?_; clear hA A hB B; try simp only [hz]) | (refine hB ?_; clear hA A hB B; try simp only [hz]) | (refine gG ?_ ?_ <;> (intro hz; have h := nm hz; try (exfalso; omega)) <;> (have hz := nz hz; try subst hz)) | (rw [if_pos (show _ ∧ _ from ⟨by omega, by omega⟩)]; refine sS ?_) | refine gT ?_ | (clear hN N))
    all_goals (first | exact retZ hQ Tryd.results56 (Desc.re [] rfl) | exact retZN hQ Tryd.results56 (Desc.re [] rfl))
set_option maxRecDepth 100000 in
set_option maxHeartbeats 2000000 in
theorem odd1_ix (l : List Int) (hl : l.length ≤ 9223372036854775807) : Sp Tryd.prog K 94 [.sl 1 (il l), .fn 56 []] [] fun u hh => u = .sc (.int .i64 (fix odd1 l 0)) ∧ hh = [] := by
  have hget : True := trivial
  have cw : True := trivial
  refine Sp.of_bodyE Tryd.func94 rfl ?_
  intro Q hQ
  simp only [List.replicate, List.length_cons, List.length_nil, Tryd.ntmps94, Nat.reduceAdd, Nat.reduceSub, List.cons_append, List.nil_append, go_sem]
  have hz : True := trivial
  have hy := yieldedV_eq
  have hL := @hget
  repeat' (first | (refine WPV.seqK ?_; intro N hN) | refine gA ?_ | (refine gR (M := noM) ?_; intro N hN ops hy) | (refine gD (M := noM) ?_; intro N hN; have hy := yieldedV_eq) | (refine WPV.condK ?_; intro A hA B hB) | (refine here ?_; refine sS ?_) | refine Both.mk ?_ ?_ | ((with_reducible refine CallO.gd 56 ?_); refine CallO.toB Tryd.call56 (cw _) ?_) | ((with_reducible refine CallP.gd 56 ?_); refine CallP.toB Tryd.call56 (cw _) ?_) | (refine hN _ ?_; try clear hN N; try clear hy ops) | (refine hA ?_; clear hA A hB B; try simp only [hz]) | (refine hB ?_; clear hA A hB B; try simp only [hz]) | (refine gG ?_ ?_ <;> (intro hz; have h := nm hz; try (exfalso; omega)) <;> (have hz := nz hz; try subst hz)) | (rw [if_pos (show _ ∧ _ from ⟨by omega, by omega⟩)]; refine sS ?_) | refine gT ?_ | (clear hN N))
  refine WPV.loopW (α := Nat) (fun k => l.length - k) (fun k => ⟨[.sl 1 (il l), .fn 56 [], .any, .any, .any, .any, .any, .sc (.int .i64 (l.length : Int)), .sc (.int .i64 ((k : Nat) : Int)), .any, .any, .any, .any, .any, .any, .any, .any, .any, .any], []⟩) (fun k => k ≤ l.length ∧ fix odd1 l 0 = fix odd1 (l.drop k) k) 0 Desc.weakA ⟨Nat.zero_le _, rfl⟩ (fun k hJ H => ?_)
  obtain ⟨hk0, hJ⟩ := hJ
  clear hget cw
  by_cases h : k < l.length
  · obtain ⟨a, hg⟩ : ∃ a, l[k] = a := ⟨_, rfl⟩
    have hget : l[k]? = some a := by rw [← hg]; exact List.getElem?_eq_getElem h
    rw [List.drop_eq_getElem_cons h, fix, hg] at hJ
    have cw := odd1_s (K := K) a
    cases hb : odd1 a with
    | true =>
      rw [hb] at cw
      rw [if_pos hb] at hJ
      rw [hJ] at hQ
      clear H hg hJ
      refine loopV ?_
      have hz : True := trivial
      have hy := yieldedV_eq
      have hL := @hget
      repeat' (first | (refine WPV.seqK ?_; intro N hN) | refine gA ?_ | (refine gR (M := noM) ?_; intro N hN ops hy) | (refine gD (M := noM) ?_; intro N hN; have hy := yieldedV_eq) | (refine WPV.condK ?_; intro A hA B hB) | (refine here ?_; refine sS ?_) | refine Both.mk ?_ ?_ | ((with_reducible refine CallO.gd 56 ?_); refine CallO.toB Tryd.call56 (cw _) ?_) | ((with_reducible refine CallP.gd 56 ?_); refine CallP.toB Tryd.call56 (cw _) ?_) | (refine hN _ ?_; try clear hN N; try clear hy ops) | (refine hA ?_; clear hA A hB B; try simp only [hz]) | (refine hB ?_; clear hA A hB B; try simp only [hz]) | (refine gG ?_ ?_ <;> (intro hz; have h := nm hz; try (exfalso; omega)) <;> (have hz := nz hz; try subst hz)) | (rw [if_pos (show _ ∧ _ from ⟨by omega, by omega⟩)]; refine sS ?_) | refine gT ?_ | (clear hN N))
      all_goals (first | exact retZ hQ Tryd.results94 (Desc.re [] rfl) | exact retZN hQ Tryd.results94 (Desc.re [] rfl))
    | false =>
      rw [hb] at cw
      rw [if_neg (by simp [hb])] at hJ
      have H' := H (k + 1) ⟨by omega, hJ⟩ (by omega)
      clear H hg hJ
      refine loopV ?_
      have hz : True := trivial
      have hy := yieldedV_eq
      have hL := @hget
      repeat' (first | (refine WPV.seqK ?_; intro N hN) | refine gA ?_ | (refine gR (M := noM) ?_; intro N hN ops hy) | (refine gD (M := noM) ?_; intro N hN; have hy := yieldedV_eq) | (refine WPV.condK ?_; intro A hA B hB) | (refine here ?_; refine sS ?_) | refine Both.mk ?_ ?_ | ((with_reducible refine CallO.gd 56 ?_); refine CallO.toB Tryd.call56 (cw _) ?_) | ((with_reducible refine CallP.gd 56 ?_); refine CallP.toB Tryd.call56 (cw _) ?_) | (refine hN _ ?_; try clear hN N; try clear hy ops) | (refine hA ?_; clear hA A hB B; try simp only [hz]) | (refine hB ?_; clear hA A hB B; try simp only [hz]) | (refine gG ?_ ?_ <;> (intro hz; have h := nm hz; try (exfalso; omega)) <;> (have hz := nz hz; try subst hz)) | (rw [if_pos (show _ ∧ _ from ⟨by omega, by omega⟩)]; refine sS ?_) | refine gT ?_ | (clear hN N))
      all_goals (exact rndZ (Desc.re [] rfl) (H'))
  · obtain rfl : k = l.length := by omega
    rw [List.drop_length, fix] at hJ
    rw [hJ] at hQ
    clear H hJ
    have hget : True := trivial
    have cw : True := trivial
    refine loopV ?_
    have hz : True := trivial
    have hy := yieldedV_eq
    have hL := @hget
    repeat' (first | (refine WPV.seqK ?_; intro N hN) | refine gA ?_ | (refine gR (M := noM) ?_; intro N hN ops hy) | (refine gD (M := noM) ?_; intro N hN; have hy := yieldedV_eq) | (refine WPV.condK ?_; intro A hA B hB) | (refine here ?_; refine sS ?_) | refine Both.mk ?_ ?_ | ((with_reducible refine CallO.gd 56 ?_); refine CallO.toB Tryd.call56 (cw _) ?_) | ((with_reducible refine CallP.gd 56 ?_); refine CallP.toB Tryd.call56 (cw _) ?_) | (refine hN _ ?_; try clear hN N; try clear hy ops) | (refine hA ?_; clear hA A hB B; try simp only [hz]) | (refine hB ?_; clear hA A hB B; try simp only [hz]) | (refine gG ?_ ?_ <;> (intro hz; have h := nm hz; try (exfalso; omega)) <;> (have hz := nz hz; try subst hz)) | (rw [if_pos (show _ ∧ _ from ⟨by omega, by omega⟩)]; refine sS ?_) | refine gT ?_ | (clear hN N))
    all_goals (first | exact retZ hQ Tryd.results94 (Desc.re [] rfl) | exact retZN hQ Tryd.results94 (Desc.re [] rfl))
set_option maxRecDepth 100000 in
theorem odd1_any (l : List Int) (hl : l.length ≤ 9223372036854775807) : Sp Tryd.prog K 55 [.sl 1 (il l), .fn 56 []] [] fun u hh => u = .sc (.bool (l.any odd1)) ∧ hh = [] := by
  have hq : decide (0 ≤ fix odd1 l 0) = l.any odd1 := fix_any _ l 0
  refine Sp.of_bodyE Tryd.func55 rfl ?_
  intro Q hQ
  simp only [List.replicate, List.length_cons, List.length_nil, Tryd.ntmps55, Nat.reduceAdd, Nat.reduceSub, List.cons_append, List.nil_append, go_sem]
  have hz : True := trivial
  have hy := yieldedV_eq
  have hL := @hq
  repeat' (first | (refine WPV.seqK ?_; intro N hN) | refine gA ?_ | (refine gR (M := noM) ?_; intro N hN ops hy) | (refine gD (M := noM) ?_; intro N hN; have hy := yieldedV_eq) | (refine WPV.condK ?_; intro A hA B hB) | (refine here ?_; refine sS ?_) | refine Both.mk ?_ ?_ | ((with_reducible refine CallO.gd 94 ?_); refine CallO.frB [] Tryd.call94 (odd1_ix l hl) ?_) | (refine hN _ ?_; try clear hN N; try clear hy ops) | (refine hA ?_; clear hA A hB B; try simp only [hz]) | (refine hB ?_; clear hA A hB B; try simp only [hz]) | (refine gG ?_ ?_ <;> (intro hz; have h := nm hz; try (exfalso; omega)) <;> (have hz := nz hz; try subst hz)) | (rw [if_pos (show _ ∧ _ from ⟨by omega, by omega⟩)]; refine sS ?_) | refine gT ?_ | (clear hN N))
  all_goals (first | exact retZ hQ Tryd.results55 (Desc.re [] rfl) | exact retZN hQ Tryd.results55 (Desc.re [] rfl))
set_option maxRecDepth 100000 in
set_option maxHeartbeats 1000000 in
theorem wrote_s (hT : TT K) (x : It) (hd : 0 ≤ x.d ∧ x.d ≤ 8) (hl : x.w.length ≤ 9223372036854775807) : Sp Tryd.prog K 54 [itV x] [] fun u hh => u = .sc (.bool (decide (wroteE x.w = 0 ∧ (x.d = 0 ∨ x.w.length = 0)))) ∧ hh = [] := by
  have c64 := fun h => hasP hT tells_64 x hd h
  have ct := tcheck_s (K := K) ⟨0, 1, ⟨0, 0, 0⟩, x.w⟩ hl
  obtain ⟨d, o, n, a, m, ⟨cx, cy, cz⟩, w, k⟩ := x
  dsimp only at c64 ct hd ⊢
  rw [show checkF ⟨0, 1, ⟨0, 0, 0⟩, w⟩ = wroteE w from rfl] at ct
  generalize wroteE w = e at *
  refine Sp.of_bodyE Tryd.func54 rfl ?_
  intro Q hQ
  simp only [List.replicate, List.length_cons, List.length_nil, Tryd.ntmps54, Nat.reduceAdd, Nat.reduceSub, List.cons_append, List.nil_append, go_sem]
  have hz : True := trivial
  have hy := yieldedV_eq
  have hL := True.intro
  repeat' (first | (refine WPV.seqK ?_; intro N hN) | refine gA ?_ | (refine gR (M := noM) ?_; intro N hN ops hy) | (refine gD (M := noM) ?_; intro N hN; have hy := yieldedV_eq) | (refine WPV.condK ?_; intro A hA B hB) | (refine here ?_; refine sS ?_) | refine Both.mk ?_ ?_ | ((with_reducible refine CallO.gd 52 ?_); refine CallO.toB Tryd.call52 (c64 _) ?_) | ((with_reducible refine CallO.gd 66 ?_); refine CallO.frB [] Tryd.call66 (ct) ?_) | ((with_reducible refine CallP.gd 52 ?_); refine CallP.toB Tryd.call52 (c64 _) ?_) | (refine hN _ ?_; try clear hN N; try clear hy ops) | (refine hA ?_; clear hA A hB B; try simp only [hz]) | (refine hB ?_; clear hA A hB B; try simp only [hz]) | (refine gG ?_ ?_ <;> (intro hz; have h := nm hz; try (exfalso; omega)) <;> (have hz := nz hz; try subst hz)) | (rw [if_pos (show _ ∧ _ from ⟨by omega, by omega⟩)]; refine sS ?_) | refine gT ?_ | (clear hN N))
  all_goals (first | exact retZ hQ Tryd.results54 (Desc.re [] rfl) | exact retZN hQ Tryd.results54 (Desc.re [] rfl))
end Go.Proofs.YtgfnpcmehnjopaaDoor
end
