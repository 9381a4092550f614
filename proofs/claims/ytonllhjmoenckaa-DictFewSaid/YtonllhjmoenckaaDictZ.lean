/- What is known behind Put and Take; what one dictionary tells another one reads. No program stands here. -/
import Derived.Test.YtonllhjmoenckaaDictY
namespace Go.Proofs.Ytonllhjmoenckaa
open Go Go.RowKit
set_option linter.unusedVariables false
set_option linter.unusedSimpArgs false

theorem Di.comes_at (d : Di) (k : ByteArray) : 0 ≤ (d.comes k).at_ k := by
  unfold Di.comes Di.at_
  split
  · dsimp only; rw [pget_pset, if_pos rfl]; simp
  · dsimp only; rw [pget_pset, if_pos rfl]; simp
theorem Di.put_known (d : Di) (k : ByteArray) (h : (d.put k).1.2 = 0) : 0 ≤ (d.put k).2.at_ k := by
  unfold Di.put at h ⊢
  split
  · rename_i h1; rw [if_pos h1] at h; simp at h
  · split
    · assumption
    · exact d.comes_at k
theorem dkOf_place {b : List UInt8} {p u : Nat} (h : dkOf b = .place p u) : 0 < p := by
  unfold dkOf at h
  split at h <;> try cases h
  split at h <;> try cases h
  · omega
  split at h <;> try cases h
  split at h <;> try cases h
  split at h <;> cases h
theorem dkOf_err {b : List UInt8} {e : Int} (h : dkOf b = .err e) : e ≠ 0 := by
  unfold dkOf at h
  split at h
  · rename_i h1; cases h; exact h1
  split at h <;> try cases h
  split at h
  · rename_i h1; cases h; exact h1
  split at h
  · cases h; decide
  split at h
  · cases h; decide
  · cases h
theorem Di.take_known {d : Di} (ok : d.Ok) (b : List UInt8) (h : (d.take b).1.2.2 = 0) : 0 ≤ (d.take b).2.at_ (d.take b).1.1 := by
  unfold Di.take at h ⊢
  split
  · rename_i e hb; rw [hb] at h; exact absurd h (dkOf_err hb)
  · rename_i p u hb
    rw [hb] at h
    dsimp only at h
    split
    · rename_i h1; rw [if_pos h1] at h; simp at h
    · rename_i h1
      have hp := dkOf_place hb
      have : d.ks[p - 1]? = some (d.ks.getD (p - 1) ⟨#[]⟩) := by
        rw [List.getD_eq_getElem?_getD, List.getElem?_eq_getElem (by omega)]; rfl
      dsimp only
      rw [ok.at_get this]; omega
  · rename_i s u hb
    rw [hb] at h
    dsimp only at h
    split
    · rename_i h1; rw [if_pos h1] at h; simp at h
    · exact d.comes_at s
/-- An error of Put: the key is too long, and there are no bytes. -/
theorem Di.put_err (d : Di) (k : ByteArray) (h : (d.put k).1.2 ≠ 0) : 64 < k.size ∧ (d.put k).1.1 = [] := by
  unfold Di.put at h ⊢
  split
  · rename_i h1; exact ⟨h1, rfl⟩
  · rename_i h1
    rw [if_neg h1] at h
    split at h <;> exact absurd rfl h
theorem tk_nat (n : Nat) (h : n < 18446744073709551616) (b : List UInt8) : tk (vput n ++ b) = (UInt64.ofNat n, (vput n).length, 0) := by
  have e : (UInt64.ofNat n).toNat = n := by rw [UInt64.toNat_ofNat']; omega
  have := tk_put (UInt64.ofNat n) b
  rwa [e] at this
theorem Di.back {d : Di} (ok : d.Ok) (k : ByteArray) (r : List UInt8) (h : (d.put k).1.2 = 0) : d.take ((d.put k).1.1 ++ r) = ((k, ((d.put k).1.1.length : Int), 0), (d.put k).2) := by
  unfold Di.put at h ⊢
  split
  · rename_i h1; rw [if_pos h1] at h; simp at h
  · rename_i h1
    split
    · rename_i h2
      have hlt := ok.at8 k
      have hg := ok.get_at h2
      generalize hn : (d.at_ k).toNat = n at hg
      have hn1 : (d.at_ k + 1).toNat = n + 1 := by omega
      have hnl := get_lt hg
      have h8 := ok.len
      dsimp only
      rw [hn1]
      have htk := tk_nat (n + 1) (by omega) r
      have e1 : (UInt64.ofNat (n + 1)).toNat = n + 1 := by rw [UInt64.toNat_ofNat']; omega
      have hdk : dkOf (vput (n + 1) ++ r) = .place (n + 1) (vput (n + 1)).length := by
        unfold dkOf
        rw [htk]
        dsimp only
        rw [if_neg (by simp), e1, if_pos (by omega)]
      unfold Di.take
      rw [hdk]
      dsimp only
      rw [if_neg (by omega)]
      have : d.ks.getD (n + 1 - 1) ⟨#[]⟩ = k := by
        rw [Nat.add_sub_cancel, List.getD_eq_getElem?_getD, hg]; rfl
      rw [this]
    · rename_i h2
      dsimp only
      have hs : k.toList.length = k.size := by rw [ByteArray.toList_eq]; simp
      have h0 := tk_nat 0 (by decide) (vput k.size ++ k.toList ++ r)
      have h1' := tk_nat k.size (by omega) (k.toList ++ r)
      have hv0 : (vput 0).length = 1 := by rw [vput_zero]; rfl
      have e0 : vput 0 ++ vput k.size ++ k.toList ++ r = vput 0 ++ (vput k.size ++ k.toList ++ r) := by simp [List.append_assoc]
      have e1 : (vput 0 ++ (vput k.size ++ k.toList ++ r)).drop 1 = vput k.size ++ (k.toList ++ r) := by
        rw [← hv0, List.drop_left, List.append_assoc]
      have e2 : (UInt64.ofNat k.size).toNat = k.size := by rw [UInt64.toNat_ofNat']; omega
      have e3 : dkText (vput 0 ++ (vput k.size ++ k.toList ++ r)) (1 + (vput k.size).length) k.size = k := by
        unfold dkText
        have : (vput 0 ++ (vput k.size ++ k.toList ++ r)).drop (1 + (vput k.size).length) = k.toList ++ r := by
          rw [← List.drop_drop, e1, List.drop_left]
        rw [this, ← hs, List.take_left, ByteArray.toList_eq]
      have hdk : dkOf (vput 0 ++ (vput k.size ++ k.toList ++ r)) = .text k (1 + (vput k.size).length + k.size) := by
        unfold dkOf
        rw [h0, hv0]
        dsimp only
        rw [if_neg (by simp), if_neg (by simp), e1, h1']
        dsimp only
        rw [if_neg (by simp), e2, if_neg h1, if_neg (by simp [hv0, hs]; omega), e3]
      rw [e0]
      unfold Di.take
      rw [hdk]
      dsimp only
      rw [if_neg (by omega)]
      simp only [Prod.mk.injEq, true_and, and_true]
      simp [hv0, hs]
      omega
/-- Keys that are told one by one. -/
def dfold (d : Di) (ks : List ByteArray) : Di := ks.foldl (fun d k => (d.put k).2) d
theorem dfold_nil (d : Di) : dfold d [] = d := rfl
theorem dfold_snoc (d : Di) (ks : List ByteArray) (k : ByteArray) : dfold d (ks ++ [k]) = ((dfold d ks).put k).2 := by simp [dfold]
theorem dfold_ok : ∀ (ks : List ByteArray) {d : Di}, d.Ok → (dfold d ks).Ok
  | [], d, h => h
  | k :: ks, d, h => dfold_ok ks (d := (d.put k).2) (h.put k)
theorem take_snoc {α : Type} {l : List α} {k : Nat} {x : α} (h : l[k]? = some x) : l.take (k + 1) = l.take k ++ [x] := by
  rw [List.take_add_one, h]; rfl
end Go.Proofs.Ytonllhjmoenckaa
