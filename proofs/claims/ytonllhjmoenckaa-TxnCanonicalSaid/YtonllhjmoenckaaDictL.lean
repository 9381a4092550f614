/- Dictionaries as values: what stands between the two. No program stands here. -/
import Derived.Test.YtonllhjmoenckaaRDictP
namespace Go.Proofs.Ytonllhjmoenckaa
section
open Go Go.RowKit
set_option linter.unusedVariables false
set_option linter.unusedSimpArgs false

theorem ba_beq (a b : ByteArray) : (a == b) = decide (a = b) := by
  rw [Bool.eq_iff_iff, decide_eq_true_eq]
  obtain ⟨x⟩ := a
  obtain ⟨y⟩ := b
  show (x == y) = true ↔ _
  simp [ByteArray.mk.injEq]
theorem ba_lbeq (a b : ByteArray) : (a.toList == b.toList) = decide (a = b) := by
  rw [Bool.eq_iff_iff, decide_eq_true_eq]
  exact ⟨ba_eq, fun h => by subst h; simp⟩
theorem pget_pset (c : Nat) (k k' : ByteArray) (n : Int) : ∀ l : Pm, pget (pset c l k n) k' = if k' = k then some n else pget l k'
  | [] => by simp [pset, pget, ba_beq]
  | e :: l => by
    have ih := pget_pset c k k' n l
    simp only [pset, pget, ba_beq, decide_eq_true_eq]
    by_cases h : k = e.2.1
    · rw [if_pos h]
      simp only [pget, ba_beq, decide_eq_true_eq]
      subst h
      split <;> rfl
    · rw [if_neg h]
      simp only [pget, ba_beq, decide_eq_true_eq, ih]
      by_cases h2 : k' = e.2.1
      · rw [if_pos h2, if_pos h2, if_neg (fun h3 => h (h3.symm.trans h2))]
      · rw [if_neg h2, if_neg h2]
def pk (l : Pm) : List ByteArray := l.map (·.2.1)
theorem pget_none {k : ByteArray} : ∀ {l : Pm}, k ∉ pk l → pget l k = none
  | [], _ => rfl
  | e :: l, h => by
    simp only [pk, List.map_cons, List.mem_cons, not_or] at h
    simp only [pget, ba_beq, decide_eq_true_eq]
    rw [if_neg h.1]
    exact pget_none h.2
theorem pget_pdel (o k' : ByteArray) : ∀ l : Pm, (pk l).Nodup → pget (pdel l o) k' = if k' = o then none else pget l k'
  | [], _ => by simp [pdel, pget]
  | e :: l, h => by
    have h' := List.nodup_cons.1 (show (e.2.1 :: pk l).Nodup from h)
    have ih := pget_pdel o k' l h'.2
    simp only [pdel, pget, ba_beq, decide_eq_true_eq]
    by_cases h1 : o = e.2.1
    · rw [if_pos h1]
      by_cases h2 : k' = o
      · rw [if_pos h2, h2, h1]; exact pget_none h'.1
      · rw [if_neg h2, if_neg (fun h3 => h2 (h3.trans h1.symm))]
    · rw [if_neg h1]
      simp only [pget, ba_beq, decide_eq_true_eq, ih]
      by_cases h2 : k' = e.2.1
      · rw [if_pos h2, if_pos h2, if_neg (fun h3 => h1 (h3.symm.trans h2))]
      · rw [if_neg h2, if_neg h2]
open Classical in
theorem pk_pset (c : Nat) (k : ByteArray) (n : Int) : ∀ l : Pm, pk (pset c l k n) = if k ∈ pk l then pk l else pk l ++ [k]
  | [] => by simp [pset, pk]
  | e :: l => by
    have ih := pk_pset c k n l
    simp only [pset, ba_beq, decide_eq_true_eq]
    by_cases h : k = e.2.1
    · rw [if_pos h, if_pos (by simp [pk, h])]; simp [pk, h]
    · rw [if_neg h]
      have e1 : ∀ x : Nat × ByteArray × Int, ∀ m : Pm, pk (x :: m) = x.2.1 :: pk m := fun _ _ => rfl
      rw [e1, e1, ih]
      by_cases h2 : k ∈ pk l
      · rw [if_pos h2, if_pos (by simp [h2])]
      · rw [if_neg h2, if_neg (by simp [h, h2])]; simp
theorem pk_nd_pset {c : Nat} {k : ByteArray} {n : Int} {l : Pm} (h : (pk l).Nodup) : (pk (pset c l k n)).Nodup := by
  rw [pk_pset]
  split
  · exact h
  · rename_i hk
    exact List.nodup_append.2 ⟨h, by simp, fun a ha b hb => by simp at hb; subst hb; exact fun e => hk (e ▸ ha)⟩
theorem pk_nd_pdel {k : ByteArray} {l : Pm} (h : (pk l).Nodup) : (pk (pdel l k)).Nodup := h.sublist ((pdel_sub k l).map _)

theorem idx_none {k : ByteArray} : ∀ {l : List ByteArray} {i : Nat}, k ∉ l → idx k l i = -1
  | [], _, _ => rfl
  | s :: l, i, h => by
    simp only [List.mem_cons, not_or] at h
    unfold idx
    rw [ba_lbeq, if_neg (by simp; exact fun e => h.1 e.symm)]
    exact idx_none h.2
theorem idx_some {k : ByteArray} : ∀ {l : List ByteArray} {i j : Nat}, l.Nodup → l[j]? = some k → idx k l i = ((i + j : Nat) : Int)
  | [], _, _, _, h => by simp at h
  | s :: l, i, 0, hn, h => by
    simp at h
    unfold idx
    rw [ba_lbeq, if_pos (by simp [h])]; rfl
  | s :: l, i, j + 1, hn, h => by
    have hn' := List.nodup_cons.1 hn
    simp at h
    unfold idx
    rw [ba_lbeq, if_neg (by simp; exact fun e => hn'.1 (e ▸ List.mem_iff_getElem?.2 ⟨j, h⟩)), idx_some hn'.2 h]
    congr 1; omega

structure Di.Ok (d : Di) : Prop where
  sta : Sta d.c d.l
  len : d.ks.length ≤ 8
  e8 : d.e < 8
  nd : d.ks.Nodup
  sz : ∀ k ∈ d.ks, k.size ≤ 64
  kn : (pk d.l).Nodup
  pi : ∀ k j, pget d.l k = some j ↔ ∃ n : Nat, j = n ∧ d.ks[n]? = some k
theorem Di.Ok.nw : Di.new.Ok := ⟨⟨by simp [Di.new], by simp [Di.new]⟩, by simp [Di.new], by simp [Di.new], by simp [Di.new], by simp [Di.new], by simp [Di.new, pk], by simp [Di.new, pget]⟩
theorem Di.Ok.idx {d : Di} (h : d.Ok) (k : ByteArray) : d.at_ k = idx k d.ks 0 := by
  unfold Di.at_
  by_cases hk : k ∈ d.ks
  · obtain ⟨n, hn⟩ := List.mem_iff_getElem?.1 hk
    rw [(h.pi k n).2 ⟨n, rfl, hn⟩, idx_some h.nd hn]; simp
  · have : pget d.l k = none := by
      cases hp : pget d.l k with
      | none => rfl
      | some j =>
        obtain ⟨n, _, hn⟩ := (h.pi k j).1 hp
        exact absurd (List.mem_iff_getElem?.2 ⟨n, hn⟩) hk
    rw [this, idx_none hk]; rfl
theorem Di.Ok.at8 {d : Di} (h : d.Ok) (k : ByteArray) : d.at_ k < 8 := by
  rw [h.idx]; have := idx_bd k d.ks 0; have := h.len; omega
theorem Di.Ok.out {d : Di} (h : d.Ok) {k : ByteArray} (hk : d.at_ k < 0) : k ∉ d.ks := fun hm => by
  obtain ⟨n, hn⟩ := List.mem_iff_getElem?.1 hm
  rw [h.idx, idx_some h.nd hn] at hk; omega
theorem Di.Ok.at_get {d : Di} (h : d.Ok) {k : ByteArray} {n : Nat} (hn : d.ks[n]? = some k) : d.at_ k = n := by
  rw [h.idx, idx_some h.nd hn]; simp
theorem Di.Ok.get_at {d : Di} (h : d.Ok) {k : ByteArray} (hk : 0 ≤ d.at_ k) : d.ks[(d.at_ k).toNat]? = some k := by
  by_cases hm : k ∈ d.ks
  · obtain ⟨n, hn⟩ := List.mem_iff_getElem?.1 hm
    rw [h.at_get hn]; simpa using hn
  · rw [h.idx, idx_none hm] at hk; omega
theorem Di.Ok.comes {d : Di} (h : d.Ok) {k : ByteArray} (hk : k ∉ d.ks) (hs : k.size ≤ 64) : (d.comes k).Ok := by
  unfold Di.comes
  by_cases h8 : d.ks.length < 8
  · rw [if_pos h8]
    refine ⟨h.sta.set k _, by simp; omega, h.e8, List.nodup_append.2 ⟨h.nd, by simp, fun a ha b hb => by simp at hb; subst hb; exact fun e => hk (e ▸ ha)⟩, fun x hx => ?_, pk_nd_pset h.kn, fun x j => ?_⟩
    · rcases List.mem_append.1 hx with h1 | h1
      · exact h.sz x h1
      · simp at h1; subst h1; exact hs
    · show pget (pset d.c d.l k d.ks.length) x = some j ↔ ∃ n : Nat, j = n ∧ (d.ks ++ [k])[n]? = some x
      rw [pget_pset]
      by_cases hx : x = k
      · subst hx
        rw [if_pos rfl]
        refine ⟨fun e => ⟨d.ks.length, by cases e; rfl, by simp⟩, fun ⟨n, e1, e2⟩ => ?_⟩
        have : n = d.ks.length := by
          by_cases hn : n < d.ks.length
          · rw [List.getElem?_append_left hn] at e2; exact absurd (List.mem_iff_getElem?.2 ⟨n, e2⟩) hk
          · rw [List.getElem?_append_right (by omega)] at e2
            have := List.getElem?_eq_some_iff.1 e2
            obtain ⟨h1, _⟩ := this
            simp at h1; omega
        rw [e1, this]
      · rw [if_neg hx, h.pi]
        refine exists_congr fun n => and_congr_right fun _ => ?_
        by_cases hn : n < d.ks.length
        · rw [List.getElem?_append_left hn]
        · rw [List.getElem?_append_right (by omega), List.getElem?_eq_none (by omega)]
          refine ⟨fun e => by simp at e, fun e => ?_⟩
          obtain ⟨h1, h2⟩ := List.getElem?_eq_some_iff.1 e
          simp at h2; exact absurd h2.symm hx
  · rw [if_neg h8]
    have hl : d.ks.length = 8 := by have := h.len; omega
    have he : d.e < d.ks.length := by have := h.e8; omega
    generalize ho : d.ks.getD d.e ⟨#[]⟩ = o
    have hoe : d.ks[d.e]? = some o := by rw [← ho, List.getD_eq_getElem?_getD, List.getElem?_eq_getElem he]; rfl
    have hmo : o ∈ d.ks := List.mem_iff_getElem?.2 ⟨_, hoe⟩
    have hko : k ≠ o := fun e => hk (e ▸ hmo)
    have hu : ∀ {n x}, d.ks[n]? = some x → ∀ {m}, d.ks[m]? = some x → n = m := fun {n x} a {m} b => by
      have := idx_some (i := 0) h.nd a
      rw [idx_some (i := 0) h.nd b] at this; omega
    refine ⟨(h.sta.del o).set k _, by simp; omega, by show (d.e + 1) % 8 < 8; omega, ?_, fun x hx => ?_, pk_nd_pset (pk_nd_pdel h.kn), fun x j => ?_⟩
    · show (d.ks.set d.e k).Nodup
      refine List.pairwise_iff_getElem.2 fun i j hi hj hij => ?_
      refine fun e0 => (?_ : (d.ks.set d.e k)[i]? ≠ (d.ks.set d.e k)[j]?) (by rw [List.getElem?_eq_getElem hi, List.getElem?_eq_getElem hj, e0])
      rw [List.length_set] at hi
      rw [List.length_set] at hj
      rw [List.getElem?_set, List.getElem?_set]
      by_cases h1 : d.e = i
      · rw [if_pos h1, if_pos he, if_neg (by omega)]
        exact fun e => hk (List.mem_iff_getElem?.2 ⟨j, e.symm⟩)
      · rw [if_neg h1]
        by_cases h2 : d.e = j
        · rw [if_pos h2, if_pos he]
          exact fun e => hk (List.mem_iff_getElem?.2 ⟨i, e⟩)
        · rw [if_neg h2]
          intro e
          rw [List.getElem?_eq_getElem hj] at e
          have := hu e (List.getElem?_eq_getElem hj)
          omega
    · rcases List.mem_or_eq_of_mem_set hx with h1 | h1
      · exact h.sz x h1
      · subst h1; exact hs
    · show pget (pset d.c (pdel d.l o) k d.e) x = some j ↔ ∃ n : Nat, j = n ∧ (d.ks.set d.e k)[n]? = some x
      rw [pget_pset, pget_pdel _ _ _ h.kn]
      by_cases hx : x = k
      · subst hx
        rw [if_pos rfl]
        refine ⟨fun e => ⟨d.e, by cases e; rfl, by rw [List.getElem?_set, if_pos rfl, if_pos he]⟩, fun ⟨n, e1, e2⟩ => ?_⟩
        rw [List.getElem?_set] at e2
        by_cases h1 : d.e = n
        · rw [e1, h1]
        · rw [if_neg h1] at e2; exact absurd (List.mem_iff_getElem?.2 ⟨n, e2⟩) hk
      · rw [if_neg hx]
        by_cases hxo : x = o
        · subst hxo
          rw [if_pos rfl]
          refine ⟨(fun e => nomatch e), fun ⟨n, e1, e2⟩ => ?_⟩
          rw [List.getElem?_set] at e2
          by_cases h1 : d.e = n
          · rw [if_pos h1, if_pos he] at e2
            simp at e2; exact absurd e2 hko
          · rw [if_neg h1] at e2; exact absurd (hu hoe e2) h1
        · rw [if_neg hxo, h.pi]
          refine exists_congr fun n => and_congr_right fun _ => ?_
          rw [List.getElem?_set]
          by_cases h1 : d.e = n
          · rw [if_pos h1, if_pos he, ← h1, hoe]
            simp only [Option.some.injEq]
            exact ⟨fun e => absurd e.symm hxo, fun e => absurd e.symm hx⟩
          · rw [if_neg h1]
theorem Di.Ok.put {d : Di} (h : d.Ok) (k : ByteArray) : (d.put k).2.Ok := by
  unfold Di.put
  split
  · exact h
  · split
    · exact h
    · exact h.comes (h.out (by omega)) (by omega)
theorem dkText_size (b : List UInt8) (a n : Nat) : (dkText b a n).size ≤ n := by
  show ((b.drop a).take n).toArray.size ≤ n
  simp; omega
theorem dkOf_text {b : List UInt8} {s : ByteArray} {u : Nat} (h : dkOf b = .text s u) : s.size ≤ 64 := by
  unfold dkOf at h
  split at h <;> try cases h
  split at h <;> try cases h
  split at h <;> try cases h
  split at h <;> try cases h
  split at h <;> try cases h
  rename_i h4 _
  exact Nat.le_trans (dkText_size _ _ _) (by omega)
theorem Di.Ok.take {d : Di} (h : d.Ok) (b : List UInt8) : (d.take b).2.Ok := by
  unfold Di.take
  split
  · exact h
  · split <;> exact h
  · rename_i hb
    split
    · exact h
    · exact h.comes (h.out (by omega)) (dkOf_text hb)
end

section
open Go Go.RowKit
set_option linter.unusedVariables false
set_option linter.unusedSimpArgs false

structure Rel (d : Di) (r : Rdi) (n : Nat) : Prop where
  ok : d.Ok
  ks : r.ks = d.ks
  now : r.now = n
  wl : r.ws.length = d.ks.length
  ln : d.ks.length = min n 8
  ed : d.e = if n < 8 then 0 else n % 8
  wj : ∀ j, j < d.ks.length → r.ws.getD j 0 = (n : Int) - (((n - 1 - j) % 8 : Nat) : Int)
theorem Rel.nw : Rel Di.new ⟨[], [], 0⟩ 0 := ⟨.nw, rfl, rfl, rfl, rfl, rfl, fun j h => absurd h (by simp [Di.new])⟩
theorem Rel.at_ {d : Di} {r : Rdi} {n : Nat} (h : Rel d r n) (k : ByteArray) : r.at_ k = d.at_ k := by
  rw [h.ok.idx]; unfold Rdi.at_; rw [h.ks]
theorem firstN_rot {w : List Int} {n : Nat} (h8 : 8 ≤ n) (hw : ∀ j, j < 8 → w.getD j 0 = (n : Int) - (((n - 1 - j) % 8 : Nat) : Int)) : ∀ i, i < 8 → firstN w (i + 1) = if i < n % 8 then 0 else n % 8
  | 0, _ => by
    have h0 : firstN w (0 + 1) = 0 := by have := firstN_lt w (0 + 1) (by omega); omega
    rw [h0]
    by_cases h : 0 < n % 8
    · rw [if_pos h]
    · rw [if_neg h]; omega
  | i + 1, hi => by
    have ih := firstN_rot h8 hw i (by omega)
    show (if w.getD (i + 1) 0 < w.getD (firstN w (i + 1)) 0 then i + 1 else firstN w (i + 1)) = _
    rw [ih]
    have h1 := hw (i + 1) hi
    have h0 := hw 0 (by omega)
    have hm := hw (n % 8) (by omega)
    by_cases h2 : i < n % 8
    · rw [if_pos h2, h0, h1]
      by_cases h3 : i + 1 < n % 8
      · rw [if_pos h3, if_neg (by omega)]
      · rw [if_neg h3, if_pos (by omega)]; omega
    · rw [if_neg h2, hm, h1, if_neg (by omega), if_neg (by omega)]
theorem Rel.comes {d : Di} {r : Rdi} {n : Nat} (h : Rel d r n) {k : ByteArray} (hk : d.at_ k < 0) (hs : k.size ≤ 64) : Rel (d.comes k) (r.comes k) (n + 1) := by
  have ok := h.ok.comes (h.ok.out hk) hs
  have hl := h.ln
  have hd := h.ed
  have hr : r.ks.length = d.ks.length := by rw [h.ks]
  have hw := h.wl
  have hj := h.wj
  by_cases h8 : d.ks.length < 8
  · have e1 : d.comes k = ⟨d.ks ++ [k], pnext d.c d.l k, pset d.c d.l k d.ks.length, d.e⟩ := by unfold Di.comes; rw [if_pos h8]
    have e2 : r.comes k = ⟨r.ks ++ [k], r.ws ++ [r.now + 1], r.now + 1⟩ := by unfold Rdi.comes; rw [hr, if_pos h8]
    rw [e1] at ok ⊢
    rw [e2]
    refine ⟨ok, by simp [h.ks], by show r.now + 1 = _; rw [h.now]; rfl, by simp [hw], by simp; omega, ?_, fun j h1 => ?_⟩
    · show d.e = _
      rw [hd, if_pos (by omega)]
      split <;> omega
    · simp at h1
      show (r.ws ++ [r.now + 1]).getD j 0 = _
      rw [List.getD_eq_getElem?_getD]
      by_cases h2 : j < d.ks.length
      · rw [List.getElem?_append_left (by omega), ← List.getD_eq_getElem?_getD, hj j h2]; omega
      · have : j = r.ws.length := by omega
        subst this
        simp [h.now]; omega
  · have e1 : d.comes k = ⟨d.ks.set d.e k, pnext d.c (pdel d.l (d.ks.getD d.e ⟨#[]⟩)) k, pset d.c (pdel d.l (d.ks.getD d.e ⟨#[]⟩)) k d.e, (d.e + 1) % 8⟩ := by unfold Di.comes; rw [if_neg h8]
    have h8' : d.ks.length = 8 := by omega
    have hn : 8 ≤ n := by omega
    rw [if_neg (by omega)] at hd
    have hf : firstN r.ws 8 = d.e := by
      rw [firstN_rot hn (fun j hlt => hj j (by omega)) 7 (by omega), hd]; split <;> omega
    have e2 : r.comes k = ⟨r.ks.set d.e k, r.ws.set d.e (r.now + 1), r.now + 1⟩ := by unfold Rdi.comes; rw [hr, if_neg h8, hf]
    rw [e1] at ok ⊢
    rw [e2]
    refine ⟨ok, by simp [h.ks], by show r.now + 1 = _; rw [h.now]; rfl, by simp [hw], by simp; omega, ?_, fun j h1 => ?_⟩
    · show (d.e + 1) % 8 = _
      rw [if_neg (by omega), hd]; omega
    · simp at h1
      show (r.ws.set d.e (r.now + 1)).getD j 0 = _
      rw [List.getD_eq_getElem?_getD, List.getElem?_set]
      by_cases h2 : d.e = j
      · rw [if_pos h2, if_pos (by omega)]
        simp [h.now]; omega
      · rw [if_neg h2, ← List.getD_eq_getElem?_getD, hj j (by omega)]; omega
theorem vput_zero : vput 0 = [0] := by rw [vput_lt (by omega)]; rfl
theorem Rel.put {d : Di} {r : Rdi} {n : Nat} (h : Rel d r n) (k : ByteArray) : (r.put k).1 = (d.put k).1 ∧ ∃ m, m ≤ n + 1 ∧ Rel (d.put k).2 (r.put k).2 m := by
  unfold Di.put Rdi.put
  rw [h.at_]
  split
  · exact ⟨rfl, n, by omega, h⟩
  · split
    · exact ⟨rfl, n, by omega, h⟩
    · exact ⟨by rw [vput_zero], n + 1, by omega, h.comes (by omega) (by omega)⟩
theorem Rel.take {d : Di} {r : Rdi} {n : Nat} (h : Rel d r n) (b : List UInt8) : (r.take b).1 = (d.take b).1 ∧ ∃ m, m ≤ n + 1 ∧ Rel (d.take b).2 (r.take b).2 m := by
  unfold Di.take Rdi.take
  rcases hb : dkOf b with e | ⟨p, u⟩ | ⟨s, u⟩
  · exact ⟨rfl, n, by omega, h⟩
  · simp only [h.ks]; split <;> exact ⟨rfl, n, by omega, h⟩
  · simp only [h.at_]
    split
    · exact ⟨rfl, n, by omega, h⟩
    · exact ⟨rfl, n + 1, by omega, h.comes (by omega) (dkOf_text hb)⟩
theorem Rel.len {d : Di} {r : Rdi} {n : Nat} (h : Rel d r n) : r.ks.length ≤ 8 ∧ r.ws.length = r.ks.length ∧ 0 ≤ r.now := ⟨by rw [h.ks]; exact h.ok.len, by rw [h.wl, h.ks], by rw [h.now]; omega⟩
end

section
open Go Go.RowKit
set_option linter.unusedVariables false
set_option linter.unusedSimpArgs false

theorem Di.comes_at (d : Di) (k : ByteArray) : 0 ≤ (d.comes k).at_ k := by
  unfold Di.comes Di.at_
  split
  · dsimp only; rw [pget_pset, if_pos rfl]; simp
  · dsimp only; rw [pget_pset, if_pos rfl]; simp
theorem Di.put_known (d : Di) (k : ByteArray) (h : (d.put k).1.2 = 0) : 0 ≤ (d.put k).2.at_ k := by
  unfold Di.put at h ⊢
  split
  · rename_i h1; rw [if_pos h1] at h; simp at h
  · split
    · assumption
    · exact d.comes_at k
theorem dkOf_place {b : List UInt8} {p u : Nat} (h : dkOf b = .place p u) : 0 < p := by
  unfold dkOf at h
  split at h <;> try cases h
  split at h <;> try cases h
  · omega
  split at h <;> try cases h
  split at h <;> try cases h
  split at h <;> cases h
theorem dkOf_err {b : List UInt8} {e : Int} (h : dkOf b = .err e) : e ≠ 0 := by
  unfold dkOf at h
  split at h
  · rename_i h1; cases h; exact h1
  split at h <;> try cases h
  split at h
  · rename_i h1; cases h; exact h1
  split at h
  · cases h; decide
  split at h
  · cases h; decide
  · cases h
theorem Di.take_known {d : Di} (ok : d.Ok) (b : List UInt8) (h : (d.take b).1.2.2 = 0) : 0 ≤ (d.take b).2.at_ (d.take b).1.1 := by
  unfold Di.take at h ⊢
  split
  · rename_i e hb; rw [hb] at h; exact absurd h (dkOf_err hb)
  · rename_i p u hb
    rw [hb] at h
    dsimp only at h
    split
    · rename_i h1; rw [if_pos h1] at h; simp at h
    · rename_i h1
      have hp := dkOf_place hb
      have : d.ks[p - 1]? = some (d.ks.getD (p - 1) ⟨#[]⟩) := by
        rw [List.getD_eq_getElem?_getD, List.getElem?_eq_getElem (by omega)]; rfl
      dsimp only
      rw [ok.at_get this]; omega
  · rename_i s u hb
    rw [hb] at h
    dsimp only at h
    split
    · rename_i h1; rw [if_pos h1] at h; simp at h
    · exact d.comes_at s
/-- An error of Put: the key is too long, and there are no bytes. -/
theorem Di.put_err (d : Di) (k : ByteArray) (h : (d.put k).1.2 ≠ 0) : 64 < k.size ∧ (d.put k).1.1 = [] := by
  unfold Di.put at h ⊢
  split
  · rename_i h1; exact ⟨h1, rfl⟩
  · rename_i h1
    rw [if_neg h1] at h
    split at h <;> exact absurd rfl h
theorem tk_nat (n : Nat) (h : n < 18446744073709551616) (b : List UInt8) : tk (vput n ++ b) = (UInt64.ofNat n, (vput n).length, 0) := by
  have e : (UInt64.ofNat n).toNat = n := by rw [UInt64.toNat_ofNat']; omega
  have := tk_put (UInt64.ofNat n) b
  rwa [e] at this
theorem Di.back {d : Di} (ok : d.Ok) (k : ByteArray) (r : List UInt8) (h : (d.put k).1.2 = 0) : d.take ((d.put k).1.1 ++ r) = ((k, ((d.put k).1.1.length : Int), 0), (d.put k).2) := by
  unfold Di.put at h ⊢
  split
  · rename_i h1; rw [if_pos h1] at h; simp at h
  · rename_i h1
    split
    · rename_i h2
      have hlt := ok.at8 k
      have hg := ok.get_at h2
      generalize hn : (d.at_ k).toNat = n at hg
      have hn1 : (d.at_ k + 1).toNat = n + 1 := by omega
      have hnl := get_lt hg
      have h8 := ok.len
      dsimp only
      rw [hn1]
      have htk := tk_nat (n + 1) (by omega) r
      have e1 : (UInt64.ofNat (n + 1)).toNat = n + 1 := by rw [UInt64.toNat_ofNat']; omega
      have hdk : dkOf (vput (n + 1) ++ r) = .place (n + 1) (vput (n + 1)).length := by
        unfold dkOf
        rw [htk]
        dsimp only
        rw [if_neg (by simp), e1, if_pos (by omega)]
      unfold Di.take
      rw [hdk]
      dsimp only
      rw [if_neg (by omega)]
      have : d.ks.getD (n + 1 - 1) ⟨#[]⟩ = k := by
        rw [Nat.add_sub_cancel, List.getD_eq_getElem?_getD, hg]; rfl
      rw [this]
    · rename_i h2
      dsimp only
      have hs : k.toList.length = k.size := by rw [ByteArray.toList_eq]; simp
      have h0 := tk_nat 0 (by decide) (vput k.size ++ k.toList ++ r)
      have h1' := tk_nat k.size (by omega) (k.toList ++ r)
      have hv0 : (vput 0).length = 1 := by rw [vput_zero]; rfl
      have e0 : vput 0 ++ vput k.size ++ k.toList ++ r = vput 0 ++ (vput k.size ++ k.toList ++ r) := by simp [List.append_assoc]
      have e1 : (vput 0 ++ (vput k.size ++ k.toList ++ r)).drop 1 = vput k.size ++ (k.toList ++ r) := by
        rw [← hv0, List.drop_left, List.append_assoc]
      have e2 : (UInt64.ofNat k.size).toNat = k.size := by rw [UInt64.toNat_ofNat']; omega
      have e3 : dkText (vput 0 ++ (vput k.size ++ k.toList ++ r)) (1 + (vput k.size).length) k.size = k := by
        unfold dkText
        have : (vput 0 ++ (vput k.size ++ k.toList ++ r)).drop (1 + (vput k.size).length) = k.toList ++ r := by
          rw [← List.drop_drop, e1, List.drop_left]
        rw [this, ← hs, List.take_left, ByteArray.toList_eq]
      have hdk : dkOf (vput 0 ++ (vput k.size ++ k.toList ++ r)) = .text k (1 + (vput k.size).length + k.size) := by
        unfold dkOf
        rw [h0, hv0]
        dsimp only
        rw [if_neg (by simp), if_neg (by simp), e1, h1']
        dsimp only
        rw [if_neg (by simp), e2, if_neg h1, if_neg (by simp [hv0, hs]; omega), e3]
      rw [e0]
      unfold Di.take
      rw [hdk]
      dsimp only
      rw [if_neg (by omega)]
      simp only [Prod.mk.injEq, true_and, and_true]
      simp [hv0, hs]
      omega
/-- Keys that are told one by one. -/
def dfold (d : Di) (ks : List ByteArray) : Di := ks.foldl (fun d k => (d.put k).2) d
theorem dfold_nil (d : Di) : dfold d [] = d := rfl
theorem dfold_snoc (d : Di) (ks : List ByteArray) (k : ByteArray) : dfold d (ks ++ [k]) = ((dfold d ks).put k).2 := by simp [dfold]
theorem dfold_ok : ∀ (ks : List ByteArray) {d : Di}, d.Ok → (dfold d ks).Ok
  | [], d, h => h
  | k :: ks, d, h => dfold_ok ks (d := (d.put k).2) (h.put k)
theorem take_snoc {α : Type} {l : List α} {k : Nat} {x : α} (h : l[k]? = some x) : l.take (k + 1) = l.take k ++ [x] := by
  rw [List.take_add_one, h]; rfl
end
end Go.Proofs.Ytonllhjmoenckaa
