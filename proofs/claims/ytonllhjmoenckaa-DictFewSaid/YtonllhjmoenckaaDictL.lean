/- Dictionaries as values: what stands between the two. No program stands here. -/
import Derived.Test.YtonllhjmoenckaaRDict4
import Derived.Test.YtonllhjmoenckaaSameS
namespace Go.Proofs.Ytonllhjmoenckaa
open Go Go.RowKit
set_option linter.unusedVariables false
set_option linter.unusedSimpArgs false

theorem ba_beq (a b : ByteArray) : (a == b) = decide (a = b) := by
  rw [Bool.eq_iff_iff, decide_eq_true_eq]
  obtain ⟨x⟩ := a
  obtain ⟨y⟩ := b
  show (x == y) = true ↔ _
  simp [ByteArray.mk.injEq]
theorem ba_lbeq (a b : ByteArray) : (a.toList == b.toList) = decide (a = b) := by
  rw [Bool.eq_iff_iff, decide_eq_true_eq]
  exact ⟨ba_eq, fun h => by subst h; simp⟩
theorem pget_pset (c : Nat) (k k' : ByteArray) (n : Int) : ∀ l : Pm, pget (pset c l k n) k' = if k' = k then some n else pget l k'
  | [] => by simp [pset, pget, ba_beq]
  | e :: l => by
    have ih := pget_pset c k k' n l
    simp only [pset, pget, ba_beq, decide_eq_true_eq]
    by_cases h : k = e.2.1
    · rw [if_pos h]
      simp only [pget, ba_beq, decide_eq_true_eq]
      subst h
      split <;> rfl
    · rw [if_neg h]
      simp only [pget, ba_beq, decide_eq_true_eq, ih]
      by_cases h2 : k' = e.2.1
      · rw [if_pos h2, if_pos h2, if_neg (fun h3 => h (h3.symm.trans h2))]
      · rw [if_neg h2, if_neg h2]
def pk (l : Pm) : List ByteArray := l.map (·.2.1)
theorem pget_none {k : ByteArray} : ∀ {l : Pm}, k ∉ pk l → pget l k = none
  | [], _ => rfl
  | e :: l, h => by
    simp only [pk, List.map_cons, List.mem_cons, not_or] at h
    simp only [pget, ba_beq, decide_eq_true_eq]
    rw [if_neg h.1]
    exact pget_none h.2
theorem pget_pdel (o k' : ByteArray) : ∀ l : Pm, (pk l).Nodup → pget (pdel l o) k' = if k' = o then none else pget l k'
  | [], _ => by simp [pdel, pget]
  | e :: l, h => by
    have h' := List.nodup_cons.1 (show (e.2.1 :: pk l).Nodup from h)
    have ih := pget_pdel o k' l h'.2
    simp only [pdel, pget, ba_beq, decide_eq_true_eq]
    by_cases h1 : o = e.2.1
    · rw [if_pos h1]
      by_cases h2 : k' = o
      · rw [if_pos h2, h2, h1]; exact pget_none h'.1
      · rw [if_neg h2, if_neg (fun h3 => h2 (h3.trans h1.symm))]
    · rw [if_neg h1]
      simp only [pget, ba_beq, decide_eq_true_eq, ih]
      by_cases h2 : k' = e.2.1
      · rw [if_pos h2, if_pos h2, if_neg (fun h3 => h1 (h3.symm.trans h2))]
      · rw [if_neg h2, if_neg h2]
open Classical in
theorem pk_pset (c : Nat) (k : ByteArray) (n : Int) : ∀ l : Pm, pk (pset c l k n) = if k ∈ pk l then pk l else pk l ++ [k]
  | [] => by simp [pset, pk]
  | e :: l => by
    have ih := pk_pset c k n l
    simp only [pset, ba_beq, decide_eq_true_eq]
    by_cases h : k = e.2.1
    · rw [if_pos h, if_pos (by simp [pk, h])]; simp [pk, h]
    · rw [if_neg h]
      have e1 : ∀ x : Nat × ByteArray × Int, ∀ m : Pm, pk (x :: m) = x.2.1 :: pk m := fun _ _ => rfl
      rw [e1, e1, ih]
      by_cases h2 : k ∈ pk l
      · rw [if_pos h2, if_pos (by simp [h2])]
      · rw [if_neg h2, if_neg (by simp [h, h2])]; simp
theorem pk_nd_pset {c : Nat} {k : ByteArray} {n : Int} {l : Pm} (h : (pk l).Nodup) : (pk (pset c l k n)).Nodup := by
  rw [pk_pset]
  split
  · exact h
  · rename_i hk
    exact List.nodup_append.2 ⟨h, by simp, fun a ha b hb => by simp at hb; subst hb; exact fun e => hk (e ▸ ha)⟩
theorem pk_nd_pdel {k : ByteArray} {l : Pm} (h : (pk l).Nodup) : (pk (pdel l k)).Nodup := h.sublist ((pdel_sub k l).map _)

theorem idx_none {k : ByteArray} : ∀ {l : List ByteArray} {i : Nat}, k ∉ l → idx k l i = -1
  | [], _, _ => rfl
  | s :: l, i, h => by
    simp only [List.mem_cons, not_or] at h
    unfold idx
    rw [ba_lbeq, if_neg (by simp; exact fun e => h.1 e.symm)]
    exact idx_none h.2
theorem idx_some {k : ByteArray} : ∀ {l : List ByteArray} {i j : Nat}, l.Nodup → l[j]? = some k → idx k l i = ((i + j : Nat) : Int)
  | [], _, _, _, h => by simp at h
  | s :: l, i, 0, hn, h => by
    simp at h
    unfold idx
    rw [ba_lbeq, if_pos (by simp [h])]; rfl
  | s :: l, i, j + 1, hn, h => by
    have hn' := List.nodup_cons.1 hn
    simp at h
    unfold idx
    rw [ba_lbeq, if_neg (by simp; exact fun e => hn'.1 (e ▸ List.mem_iff_getElem?.2 ⟨j, h⟩)), idx_some hn'.2 h]
    congr 1; omega

structure Di.Ok (d : Di) : Prop where
  sta : Sta d.c d.l
  len : d.ks.length ≤ 8
  e8 : d.e < 8
  nd : d.ks.Nodup
  sz : ∀ k ∈ d.ks, k.size ≤ 64
  kn : (pk d.l).Nodup
  pi : ∀ k j, pget d.l k = some j ↔ ∃ n : Nat, j = n ∧ d.ks[n]? = some k
theorem Di.Ok.nw : Di.new.Ok := ⟨⟨by simp [Di.new], by simp [Di.new]⟩, by simp [Di.new], by simp [Di.new], by simp [Di.new], by simp [Di.new], by simp [Di.new, pk], by simp [Di.new, pget]⟩
theorem Di.Ok.idx {d : Di} (h : d.Ok) (k : ByteArray) : d.at_ k = idx k d.ks 0 := by
  unfold Di.at_
  by_cases hk : k ∈ d.ks
  · obtain ⟨n, hn⟩ := List.mem_iff_getElem?.1 hk
    rw [(h.pi k n).2 ⟨n, rfl, hn⟩, idx_some h.nd hn]; simp
  · have : pget d.l k = none := by
      cases hp : pget d.l k with
      | none => rfl
      | some j =>
        obtain ⟨n, _, hn⟩ := (h.pi k j).1 hp
        exact absurd (List.mem_iff_getElem?.2 ⟨n, hn⟩) hk
    rw [this, idx_none hk]; rfl
theorem Di.Ok.at8 {d : Di} (h : d.Ok) (k : ByteArray) : d.at_ k < 8 := by
  rw [h.idx]; have := idx_bd k d.ks 0; have := h.len; omega
theorem Di.Ok.out {d : Di} (h : d.Ok) {k : ByteArray} (hk : d.at_ k < 0) : k ∉ d.ks := fun hm => by
  obtain ⟨n, hn⟩ := List.mem_iff_getElem?.1 hm
  rw [h.idx, idx_some h.nd hn] at hk; omega
theorem Di.Ok.at_get {d : Di} (h : d.Ok) {k : ByteArray} {n : Nat} (hn : d.ks[n]? = some k) : d.at_ k = n := by
  rw [h.idx, idx_some h.nd hn]; simp
theorem Di.Ok.get_at {d : Di} (h : d.Ok) {k : ByteArray} (hk : 0 ≤ d.at_ k) : d.ks[(d.at_ k).toNat]? = some k := by
  by_cases hm : k ∈ d.ks
  · obtain ⟨n, hn⟩ := List.mem_iff_getElem?.1 hm
    rw [h.at_get hn]; simpa using hn
  · rw [h.idx, idx_none hm] at hk; omega
theorem Di.Ok.comes {d : Di} (h : d.Ok) {k : ByteArray} (hk : k ∉ d.ks) (hs : k.size ≤ 64) : (d.comes k).Ok := by
  unfold Di.comes
  by_cases h8 : d.ks.length < 8
  · rw [if_pos h8]
    refine ⟨h.sta.set k _, by simp; omega, h.e8, List.nodup_append.2 ⟨h.nd, by simp, fun a ha b hb => by simp at hb; subst hb; exact fun e => hk (e ▸ ha)⟩, fun x hx => ?_, pk_nd_pset h.kn, fun x j => ?_⟩
    · rcases List.mem_append.1 hx with h1 | h1
      · exact h.sz x h1
      · simp at h1; subst h1; exact hs
    · show pget (pset d.c d.l k d.ks.length) x = some j ↔ ∃ n : Nat, j = n ∧ (d.ks ++ [k])[n]? = some x
      rw [pget_pset]
      by_cases hx : x = k
      · subst hx
        rw [if_pos rfl]
        refine ⟨fun e => ⟨d.ks.length, by cases e; rfl, by simp⟩, fun ⟨n, e1, e2⟩ => ?_⟩
        have : n = d.ks.length := by
          by_cases hn : n < d.ks.length
          · rw [List.getElem?_append_left hn] at e2; exact absurd (List.mem_iff_getElem?.2 ⟨n, e2⟩) hk
          · rw [List.getElem?_append_right (by omega)] at e2
            have := List.getElem?_eq_some_iff.1 e2
            obtain ⟨h1, _⟩ := this
            simp at h1; omega
        rw [e1, this]
      · rw [if_neg hx, h.pi]
        refine exists_congr fun n => and_congr_right fun _ => ?_
        by_cases hn : n < d.ks.length
        · rw [List.getElem?_append_left hn]
        · rw [List.getElem?_append_right (by omega), List.getElem?_eq_none (by omega)]
          refine ⟨fun e => by simp at e, fun e => ?_⟩
          obtain ⟨h1, h2⟩ := List.getElem?_eq_some_iff.1 e
          simp at h2; exact absurd h2.symm hx
  · rw [if_neg h8]
    have hl : d.ks.length = 8 := by have := h.len; omega
    have he : d.e < d.ks.length := by have := h.e8; omega
    generalize ho : d.ks.getD d.e ⟨#[]⟩ = o
    have hoe : d.ks[d.e]? = some o := by rw [← ho, List.getD_eq_getElem?_getD, List.getElem?_eq_getElem he]; rfl
    have hmo : o ∈ d.ks := List.mem_iff_getElem?.2 ⟨_, hoe⟩
    have hko : k ≠ o := fun e => hk (e ▸ hmo)
    have hu : ∀ {n x}, d.ks[n]? = some x → ∀ {m}, d.ks[m]? = some x → n = m := fun {n x} a {m} b => by
      have := idx_some (i := 0) h.nd a
      rw [idx_some (i := 0) h.nd b] at this; omega
    refine ⟨(h.sta.del o).set k _, by simp; omega, by show (d.e + 1) % 8 < 8; omega, ?_, fun x hx => ?_, pk_nd_pset (pk_nd_pdel h.kn), fun x j => ?_⟩
    · show (d.ks.set d.e k).Nodup
      refine List.pairwise_iff_getElem.2 fun i j hi hj hij => ?_
      refine fun e0 => (?_ : (d.ks.set d.e k)[i]? ≠ (d.ks.set d.e k)[j]?) (by rw [List.getElem?_eq_getElem hi, List.getElem?_eq_getElem hj, e0])
      rw [List.length_set] at hi
      rw [List.length_set] at hj
      rw [List.getElem?_set, List.getElem?_set]
      by_cases h1 : d.e = i
      · rw [if_pos h1, if_pos he, if_neg (by omega)]
        exact fun e => hk (List.mem_iff_getElem?.2 ⟨j, e.symm⟩)
      · rw [if_neg h1]
        by_cases h2 : d.e = j
        · rw [if_pos h2, if_pos he]
          exact fun e => hk (List.mem_iff_getElem?.2 ⟨i, e⟩)
        · rw [if_neg h2]
          intro e
          rw [List.getElem?_eq_getElem hj] at e
          have := hu e (List.getElem?_eq_getElem hj)
          omega
    · rcases List.mem_or_eq_of_mem_set hx with h1 | h1
      · exact h.sz x h1
      · subst h1; exact hs
    · show pget (pset d.c (pdel d.l o) k d.e) x = some j ↔ ∃ n : Nat, j = n ∧ (d.ks.set d.e k)[n]? = some x
      rw [pget_pset, pget_pdel _ _ _ h.kn]
      by_cases hx : x = k
      · subst hx
        rw [if_pos rfl]
        refine ⟨fun e => ⟨d.e, by cases e; rfl, by rw [List.getElem?_set, if_pos rfl, if_pos he]⟩, fun ⟨n, e1, e2⟩ => ?_⟩
        rw [List.getElem?_set] at e2
        by_cases h1 : d.e = n
        · rw [e1, h1]
        · rw [if_neg h1] at e2; exact absurd (List.mem_iff_getElem?.2 ⟨n, e2⟩) hk
      · rw [if_neg hx]
        by_cases hxo : x = o
        · subst hxo
          rw [if_pos rfl]
          refine ⟨(fun e => nomatch e), fun ⟨n, e1, e2⟩ => ?_⟩
          rw [List.getElem?_set] at e2
          by_cases h1 : d.e = n
          · rw [if_pos h1, if_pos he] at e2
            simp at e2; exact absurd e2 hko
          · rw [if_neg h1] at e2; exact absurd (hu hoe e2) h1
        · rw [if_neg hxo, h.pi]
          refine exists_congr fun n => and_congr_right fun _ => ?_
          rw [List.getElem?_set]
          by_cases h1 : d.e = n
          · rw [if_pos h1, if_pos he, ← h1, hoe]
            simp only [Option.some.injEq]
            exact ⟨fun e => absurd e.symm hxo, fun e => absurd e.symm hx⟩
          · rw [if_neg h1]
theorem Di.Ok.put {d : Di} (h : d.Ok) (k : ByteArray) : (d.put k).2.Ok := by
  unfold Di.put
  split
  · exact h
  · split
    · exact h
    · exact h.comes (h.out (by omega)) (by omega)
theorem dkText_size (b : List UInt8) (a n : Nat) : (dkText b a n).size ≤ n := by
  show ((b.drop a).take n).toArray.size ≤ n
  simp; omega
theorem dkOf_text {b : List UInt8} {s : ByteArray} {u : Nat} (h : dkOf b = .text s u) : s.size ≤ 64 := by
  unfold dkOf at h
  split at h <;> try cases h
  split at h <;> try cases h
  split at h <;> try cases h
  split at h <;> try cases h
  split at h <;> try cases h
  rename_i h4 _
  exact Nat.le_trans (dkText_size _ _ _) (by omega)
theorem Di.Ok.take {d : Di} (h : d.Ok) (b : List UInt8) : (d.take b).2.Ok := by
  unfold Di.take
  split
  · exact h
  · split <;> exact h
  · rename_i hb
    split
    · exact h
    · exact h.comes (h.out (by omega)) (dkOf_text hb)
end Go.Proofs.Ytonllhjmoenckaa
