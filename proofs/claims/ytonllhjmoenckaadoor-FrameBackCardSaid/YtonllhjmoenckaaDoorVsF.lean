/- The pure step of an operation is what the model's operation does: indexes, slices, new memory. No program stands here. -/
import Derived.Test.YtonllhjmoenckaaDoorVsC
import Derived.Laws.MakeOwn
namespace Go.Proofs.YtonllhjmoenckaaDoor
section
open Go Go.RowKit
set_option linter.unusedVariables false
set_option linter.unusedSimpArgs false
variable {F : Fr}

section
variable {P : Program} {F : Fr} {φ : List Pl} {w : World}

theorem sz_run {t : TypeId} {n : Nat} (h : szT P t = some n) : (sizeOf t).run P w = .ok n w := by
  unfold szT at h
  cases hq : P.info? t with
  | none => simp [hq] at h
  | some i => simp [sizeOf, typeInfo, hq]; simpa [hq] using h

theorem intOfV_inv {v : V} {n : Int} (h : intOfV v = some n) {r : Value} (hr : Den F φ w r v) : ∃ k, r = .int k n := by
  unfold intOfV at h
  split at h <;> cases h
  exact ⟨_, hr.sc.1⟩

theorem hsInv {r : Value} {g : Bool} {k o off n : Nat} (h : Den F φ w r (.hs g k o off n)) :
    lv φ o ∧ ((∃ b cap, r = .slice (some ⟨b, off, none⟩) n cap ∧ (∀ {z : Nat} b', φ[o]? = some (Pl.obj b' z) → b' = b ∧ (g = true → off + cap * k ≤ z)) ∧ n ≤ cap ∧ cap ≤ 9223372036854775807 ∧ (g = true → φ[o]? ≠ some Pl.free)) ∨
      (n = 0 ∧ ∃ a cap, r = .slice a 0 cap ∧ (a = none → cap = 0) ∧ cap ≤ 9223372036854775807 ∧ (g = true → cap = 0 ∧ ∀ {z : Nat} b', φ[o]? ≠ some (Pl.obj b' z)) ∧ (g = false → ∀ x, a = some x → x.spot = none))) := by
  cases h with
  | hs ho h hc hf => exact ⟨ho, .inl ⟨_, _, rfl, h, hc.1, hc.2, hf⟩⟩
  | hsE ho ha hc hsp => exact ⟨ho, .inr ⟨rfl, _, _, rfl, ha, hc, (fun e => by cases e), fun _ => hsp⟩⟩
  | hsN ho h => exact ⟨ho, .inr ⟨rfl, _, _, rfl, fun _ => rfl, by omega, fun _ => ⟨rfl, h⟩, (fun e => by cases e)⟩⟩

theorem indexAtV_run {t : TypeId} {x i v : V} (h : indexAtV P t x i = some v) {r s : Value} (hr : Den F φ w r x) (hs : Den F φ w s i) :
    ∃ u, (Instr.indexAt t r s).run P w = .ok u w ∧ Den F φ w u v := by
  unfold indexAtV at h
  split at h
  · cases h
  · rename_i n hn
    obtain ⟨kk, rfl⟩ := intOfV_inv hn hs
    split at h
    · rename_i h0
      split at h
      · rename_i xv e hu
        have hu' : P.underlying t = some (.slice (P.elem t)) := by simp [Program.elem, hu]
        have he : P.elem t = e := by simp [Program.elem, hu]
        split at h
        · rename_i k hk
          split at h
          · rename_i g k' o off len
            obtain ⟨ho, hh⟩ := hsInv hr
            split at h
            · rename_i hc; cases h
              obtain ⟨b, cap, rfl, hb, hcap⟩ : ∃ b cap, r = .slice (some ⟨b, off, none⟩) len cap ∧ (∀ {z : Nat} b', φ[o]? = some (Pl.obj b' z) → b' = b) ∧ len ≤ cap := by
                rcases hh with ⟨b, cap, e, h1, h2, _⟩ | ⟨e, _⟩
                · exact ⟨b, cap, e, fun b' hb' => (h1 b' hb').1, h2⟩
                · subst e; have := hc.2; omega
              have hc2 : 0 ≤ n ∧ n < (len : Int) := ⟨h0, hc.2⟩
              refine ⟨_, by rw [run_indexAt_slice w t _ _ _ _ _ hu', if_pos hc2, he, sz_run hk, Result.andThen_ok, add_addr], .ptr ho hb⟩
            · cases h
          · rename_i x'' hnh
            split at h
            · rename_i es hes
              obtain ⟨c, hc, rfl⟩ := Option.map_eq_some_iff.1 h
              have hd := esOf_den hes hr
              have hlt := get_lt hc
              rcases hd.slInv with ⟨a0, rfl, rfl⟩ | ⟨cap, b, off, f, rfl, hcap, hkk, hce, hde⟩
              · simp at hlt
              · have hc2 : 0 ≤ n ∧ n < (es.length : Int) := ⟨h0, by omega⟩
                refine ⟨_, by rw [run_indexAt_slice w t _ _ _ _ _ hu', if_pos hc2, he, sz_run hk, Result.andThen_ok, add_addr], ?_⟩
                exact .ep (at_ := off + n.toNat * k) (f n.toNat) rfl (fun j hj => hce _ _ hlt (by rw [← hkk _ _ hc]; exact hj)) (fun j x hx => hde _ _ _ _ hc hx)
            · cases h
        · cases h
      · rename_i len e o off hu
        have hu' : P.underlying t = some (.array (P.arrayLen t) (P.elem t)) := by simp [Program.elem, Program.arrayLen, hu]
        have he : P.elem t = e := by simp [Program.elem, hu]
        have hlen : P.arrayLen t = len := by simp [Program.arrayLen, hu]
        split at h
        · rename_i k hk
          split at h
          · rename_i hc; cases h
            obtain ⟨b, rfl, ho, hb⟩ := hr.ptrInv
            have hc2 : 0 ≤ n ∧ n < (P.arrayLen t : Int) := ⟨h0, by rw [hlen]; exact hc⟩
            exact ⟨_, by rw [run_indexAt_array w t _ _ _ hu', if_pos hc2, he, sz_run hk, Result.andThen_ok, add_addr], .ptr ho hb⟩
          · cases h
        · cases h
      · rename_i len e c off hu
        have hu' : P.underlying t = some (.array (P.arrayLen t) (P.elem t)) := by simp [Program.elem, Program.arrayLen, hu]
        have he : P.elem t = e := by simp [Program.elem, hu]
        have hlen : P.arrayLen t = len := by simp [Program.arrayLen, hu]
        split at h
        · rename_i k hk
          split at h
          · rename_i hc; cases h
            obtain ⟨b, at_, f, rfl, hcc, hdd⟩ := hr.epInv
            have hc2 : 0 ≤ n ∧ n < (P.arrayLen t : Int) := ⟨h0, by rw [hlen]; exact hc⟩
            exact ⟨_, by rw [run_indexAt_array w t _ _ _ hu', if_pos hc2, he, sz_run hk, Result.andThen_ok, add_addr], .ep f (by omega) hcc hdd⟩
          · cases h
        · cases h
      · cases h
    · cases h

theorem indexV_run {t : TypeId} {x i v : V} (h : indexV P t x i = some v) {r s : Value} (hr : Den F φ w r x) (hs : Den F φ w s i) :
    ∃ u, (Instr.index t r s).run P w = .ok u w ∧ Den F φ w u v := by
  unfold indexV at h
  split at h
  · cases h
  · rename_i n hn
    obtain ⟨kk, rfl⟩ := intOfV_inv hn hs
    split at h
    · rename_i h0
      split at h
      · rename_i len e cs hu
        split at h
        · rename_i k hk
          split at h
          · rename_i hc
            obtain ⟨rs, rfl, h1, h2, h3⟩ := hr.aggInv
            obtain ⟨d, hd⟩ := Option.isSome_iff_exists.1 hc.2
            obtain ⟨u, hu1, hu2⟩ := partV_run h hd h1 h2 h3
            have hc2 : 0 ≤ n ∧ n < (len : Int) := ⟨h0, hc.1⟩
            exact ⟨u, by simp [Instr.index, asIntOf, run_underlying hu, hc2, sz_run hk, hu1], hu2⟩
          · cases h
        · cases h
      · rename_i s0 hu
        obtain ⟨rfl, _⟩ := hr.sc
        obtain ⟨b, hb, rfl⟩ := Option.map_eq_some_iff.1 h
        have hlt := get_lt hb
        have hb2 : s0[n.toNat]? = some b := by
          rw [ByteArray.toList_eq] at hb hlt
          have hsz : n.toNat < s0.size := by simpa using hlt
          rw [getElem?_pos s0 n.toNat hsz]
          simp at hb
          rw [Array.getElem?_eq_getElem (by exact hsz)] at hb
          simpa [ByteArray.getElem_eq_getElem_data] using hb
        exact ⟨_, by simp [Instr.index, asIntOf, run_underlying hu, h0, hb2], den_sc rfl⟩
      · cases h
    · cases h

theorem boundOf_run {o : Option V} {d : Nat} {l : Int} (h : boundOf o d = some l) {ro : Option Value} (hr : ∀ v, o = some v → ∃ r, ro = some r ∧ Den F φ w r v) (hn : o = none → ro = none) :
    (o = none ∧ ro = none ∧ l = d) ∨ ∃ k, ro = some (.int k l) ∧ o.isSome = true := by
  cases o with
  | none => simp only [boundOf] at h; cases h; exact .inl ⟨rfl, hn rfl, rfl⟩
  | some v =>
    simp only [boundOf] at h
    obtain ⟨r, rfl, hd⟩ := hr v rfl
    obtain ⟨k, rfl⟩ := intOfV_inv h hd
    exact .inr ⟨k, rfl, rfl⟩

theorem sliceD_den {k n cap l h m : Nat} {es : List (List D)} {a : Option Addr} (hd : DenD F φ w (.slice a n cap) (.sl k es)) (hn : es.length = n) (hlh : l ≤ h) (hh : h ≤ n) (hm : h ≤ m) (hmc : m ≤ cap) :
    DenD F φ w (.slice (if m = l then a else a.map (·.add (l * k))) (h - l) (m - l)) (.sl k ((es.take h).drop l)) := by
  have hlen : ((es.take h).drop l).length = h - l := by simp; omega
  rcases hd.slInv with ⟨a0, e1, rfl⟩ | ⟨cap', b, off, c, e1, hcap, hk, hc, hde⟩
  · cases e1
    obtain rfl : m = 0 := by omega
    obtain rfl : h = 0 := by omega
    obtain rfl : l = 0 := by omega
    exact .nil
  · cases e1
    have get : ∀ (i : Nat) (e : List D), ((es.take h).drop l)[i]? = some e → es[l + i]? = some e := fun i e he => by
      rw [List.getElem?_drop, List.getElem?_take] at he
      split at he
      · exact he
      · cases he
    by_cases hml : m = l
    · rw [if_pos hml]
      have h0 : h - l = 0 := by omega
      have hem : (es.take h).drop l = [] := List.eq_nil_of_length_eq_zero (by omega)
      rw [h0, hem]
      exact .sl (fun _ _ => undef) rfl (by omega) (fun i e he => by simp at he) (fun i j hi => absurd hi (by omega)) (fun i e j x he => by simp at he)
    · rw [if_neg hml]
      simp only [Option.map_some, add_addr]
      refine .sl (fun i j => c (l + i) j) hlen (by omega) (fun i e he => hk _ _ (get i e he)) (fun i j hi hj => ?_) (fun i e j x he hx => hde _ _ _ _ (get i e he) hx)
      have := hc (l + i) j (by omega) hj
      rwa [show off + (l + i) * k + j = off + l * k + i * k + j by rw [Nat.add_mul]; omega] at this

theorem run_bounds {isS : Bool} {len cap l h m : Nat} {lo hi mx : Option Value}
    (hm : (mx = none ∧ m = cap) ∨ ∃ k, mx = some (.int k m) ∧ m ≤ cap ∧ hi.isSome = true) (hh : (hi = none ∧ h = len) ∨ ∃ k, hi = some (.int k h)) (hl : (lo = none ∧ l = 0) ∨ ∃ k, lo = some (.int k l)) (h1 : l ≤ h) (h2 : h ≤ m) :
    (Instr.sliceBounds isS len cap lo hi mx).run P w = .ok (l, h, m) w := by
  have bd : ∀ (k : IntKind) (x y : Nat) (c : BoundsCode), x ≤ y → (Instr.sliceBound (.int k x) y c).run P w = .ok x w := fun k x y c hxy => by
    have : (0 : Int) ≤ (x : Int) ∧ (x : Int) ≤ (y : Int) := ⟨by omega, by omega⟩
    simp [Instr.sliceBound, asIntOf, this, hxy]
  unfold Instr.sliceBounds
  rcases hm with ⟨rfl, rfl⟩ | ⟨km, rfl, hmc, hsome⟩
  · rcases hh with ⟨rfl, rfl⟩ | ⟨kh, rfl⟩ <;> rcases hl with ⟨rfl, rfl⟩ | ⟨kl, rfl⟩ <;>
      simp only [Sem.run_bind, Sem.run_pure, Result.andThen_ok, bd _ _ _ _ h1, bd _ _ _ _ h2]
  · rcases hh with ⟨rfl, rfl⟩ | ⟨kh, rfl⟩
    · simp at hsome
    · rcases hl with ⟨rfl, rfl⟩ | ⟨kl, rfl⟩ <;>
        simp only [Sem.run_bind, Sem.run_pure, Result.andThen_ok, bd _ _ _ _ h1, bd _ _ _ _ h2, bd _ _ _ _ hmc]

/-- Optional operands. -/
def DenO (F : Fr) (φ : List Pl) (w : World) : Option Value → Option V → Prop
  | none, none => True
  | some r, some v => Den F φ w r v
  | _, _ => False

theorem bound_cases {o : Option V} {d : Nat} {l : Int} (h : boundOf o d = some l) {ro : Option Value} (hr : DenO F φ w ro o) : (ro = none ∧ o = none ∧ l = d) ∨ ∃ k, ro = some (.int k l) ∧ o.isSome = true := by
  cases o with
  | none => cases ro with
    | none => simp only [boundOf] at h; cases h; exact .inl ⟨rfl, rfl, rfl⟩
    | some r => exact hr.elim
  | some v => cases ro with
    | none => exact hr.elim
    | some r =>
      simp only [boundOf] at h
      obtain ⟨k, rfl⟩ := intOfV_inv h hr
      exact .inr ⟨k, rfl, rfl⟩

/-- A part of a slice of an object's cells. -/
theorem cutH_den {g : Bool} {k o off n cap : Nat} {lo hi : Option V} {v : V} (h : cutH g k o off n lo hi = some v) {a : Option Addr} {rlo rhi : Option Value} (hn : n ≤ cap)
    (hr : Den F φ w (.slice a n cap) (.hs g k o off n)) (h1 : DenO F φ w rlo lo) (h2 : DenO F φ w rhi hi) :
    ∃ l hh, l ≤ hh ∧ hh ≤ n ∧ ((rlo = none ∧ l = 0) ∨ ∃ k : IntKind, rlo = some (.int k (l : Int))) ∧ ((rhi = none ∧ hh = n) ∨ ∃ k : IntKind, rhi = some (.int k (hh : Int))) ∧
      Den F φ w (.slice (if cap = l then a else a.map (·.add (l * k))) (hh - l) (cap - l)) v := by
  unfold cutH at h
  split at h
  · rename_i l0 h0 hl0 hh0
    split at h
    · rename_i hc
      cases h
      obtain ⟨c1, c2, c3⟩ := hc
      obtain ⟨l, rfl⟩ := Int.eq_ofNat_of_zero_le c1
      obtain ⟨hh, rfl⟩ := Int.eq_ofNat_of_zero_le (Int.le_trans c1 c2)
      refine ⟨l, hh, by omega, by omega, ?_, ?_, ?_⟩
      · rcases bound_cases hl0 h1 with ⟨a, _, b⟩ | ⟨k, a, _⟩
        · exact .inl ⟨a, by omega⟩
        · exact .inr ⟨k, a⟩
      · rcases bound_cases hh0 h2 with ⟨a, _, b⟩ | ⟨k, a, _⟩
        · exact .inl ⟨a, by omega⟩
        · exact .inr ⟨k, a⟩
      · obtain ⟨ho, hcs⟩ := hsInv hr
        have e1 : ((hh : Int) - (l : Int)).toNat = hh - l := by omega
        have e2 : ((l : Int)).toNat = l := by omega
        rw [e1, e2]
        have hlb : (((l : Int) == 0) = true) ↔ l = 0 := by simp
        by_cases hz : l = 0
        · subst hz
          have : (if cap = 0 then a else a.map (·.add (0 * k))) = a := by
            split
            · rfl
            · cases a with
              | none => rfl
              | some a => simp [Addr.add]
          rw [this]
          simp only [Nat.sub_zero, Nat.zero_mul, Nat.add_zero]
          have eg : (g && ((0 : Nat) : Int) == 0) = g := by simp
          rw [eg]
          rcases hcs with ⟨b, cap', e, hb, hc1, hc2, hfr⟩ | ⟨rfl, a', cap', e, hc1, hc2, hc3, hc4⟩
          · cases e
            exact .hs ho hb ⟨by omega, hc2⟩ hfr
          · cases e
            obtain rfl : hh = 0 := by omega
            cases g with
            | false => exact .hsE ho hc1 hc2 (hc4 rfl)
            | true =>
              obtain ⟨rfl, h5⟩ := hc3 rfl
              exact .hsN ho h5
        · have eg : (g && ((l : Nat) : Int) == 0) = false := by simp [hz]
          rw [eg]
          rcases hcs with ⟨b, cap', e, hb, hc1, hc2, hfr⟩ | ⟨rfl, a', cap', e, hc1, hc2, hc3, hc4⟩
          · cases e
            by_cases hcl : cap = l
            · rw [if_pos hcl]
              have : hh - l = 0 := by omega
              rw [this]
              exact .hsE ho (fun e => by cases e) (by omega) (fun x hx => by cases hx; rfl)
            · rw [if_neg hcl]
              simp only [Option.map_some, add_addr]
              exact .hs ho (fun b' hb' => ⟨(hb b' hb').1, fun e => by cases e⟩) ⟨by omega, by omega⟩ (fun e => by cases e)
          · omega
    · cases h
  · cases h

theorem sliceV_run {t : TypeId} {x v : V} {lo hi mx : Option V} (h : sliceV P t x lo hi mx = some v) {r : Value} {rlo rhi rmx : Option Value} (hr : Den F φ w r x)
    (h1 : DenO F φ w rlo lo) (h2 : DenO F φ w rhi hi) (h3 : DenO F φ w rmx mx) : ∃ u, (Instr.sliceAt t r rlo rhi rmx).run P w = .ok u w ∧ Den F φ w u v := by
  unfold sliceV at h
  split at h
  · rename_i hu
    split at h
    · rename_i s
      obtain ⟨rfl, _⟩ := hr.sc
      have hm : rmx = none := by cases rmx with
        | none => rfl
        | some r => exact h3.elim
      subst hm
      split at h
      · rename_i l hh hl hhh
        split at h
        · rename_i hc; cases h
          obtain ⟨c1, c2, c3⟩ := hc
          obtain ⟨l, rfl⟩ := Int.eq_ofNat_of_zero_le c1
          obtain ⟨hh, rfl⟩ := Int.eq_ofNat_of_zero_le (Int.le_trans c1 c2)
          have hb := run_bounds (P := P) (w := w) (isS := false) (len := s.size) (cap := s.size) (l := l) (h := hh) (m := s.size) (lo := rlo) (hi := rhi) (mx := none) (.inl ⟨rfl, rfl⟩)
            (by rcases bound_cases hhh h2 with ⟨a, _, b⟩ | ⟨k, a, _⟩
                · exact .inl ⟨a, by omega⟩
                · exact .inr ⟨k, a⟩)
            (by rcases bound_cases hl h1 with ⟨a, _, b⟩ | ⟨k, a, _⟩
                · exact .inl ⟨a, by omega⟩
                · exact .inr ⟨k, a⟩) (by omega) (by omega)
          exact ⟨_, by simp [Instr.sliceAt, run_underlying hu, Instr.slice, hb], den_sc rfl⟩
        · cases h
      · cases h
    · cases h
  · rename_i u hu
    split at h
    · rename_i o off n e hu2
      have hm : rmx = none := by cases rmx with
        | none => rfl
        | some r => exact h3.elim
      subst hm
      split at h
      · rename_i k hk
        obtain ⟨b, rfl, ho, hb⟩ := hr.ptrInv
        split at h
        · rename_i hbig
          obtain ⟨l, hh, a1, a2, a3, a4, a5⟩ := cutH_den (cap := n) h (Nat.le_refl _) (.hs (b := b) ho (fun b' hb' => ⟨hb b' hb', fun e => by cases e⟩) ⟨Nat.le_refl _, hbig⟩ (fun e => by cases e)) h1 h2
          have hbd := run_bounds (P := P) (w := w) (isS := false) (len := n) (cap := n) (l := l) (h := hh) (m := n) (lo := rlo) (hi := rhi) (mx := none) (.inl ⟨rfl, rfl⟩) a4 a3 a1 a2
          have e5 : (if n = l then (some (⟨b, off, none⟩ : Addr)) else (some (⟨b, off, none⟩ : Addr)).map (·.add (l * k))) = some (if n = l then (⟨b, off, none⟩ : Addr) else (⟨b, off, none⟩ : Addr).add (l * k)) := by split <;> rfl
          rw [e5] at a5
          exact ⟨_, by simp only [Instr.sliceAt, Sem.run_bind, run_underlying hu, Result.andThen_ok, Instr.slice, asAddr, Sem.run_pure, run_underlying hu2, hbd, sz_run hk], a5⟩
        · cases h
      · cases h
    · cases h
  · rename_i n e hu
    split at h
    · rename_i o off
      have hm : rmx = none := by cases rmx with
        | none => rfl
        | some r => exact h3.elim
      subst hm
      split at h
      · rename_i k hk
        obtain ⟨b, rfl, ho, hb⟩ := hr.ptrInv
        split at h
        · rename_i hbig
          obtain ⟨l, hh, a1, a2, a3, a4, a5⟩ := cutH_den (cap := n) h (Nat.le_refl _) (.hs (b := b) ho (fun b' hb' => ⟨hb b' hb', fun e => by cases e⟩) ⟨Nat.le_refl _, hbig⟩ (fun e => by cases e)) h1 h2
          have hbd := run_bounds (P := P) (w := w) (isS := false) (len := n) (cap := n) (l := l) (h := hh) (m := n) (lo := rlo) (hi := rhi) (mx := none) (.inl ⟨rfl, rfl⟩) a4 a3 a1 a2
          have e5 : (if n = l then (some (⟨b, off, none⟩ : Addr)) else (some (⟨b, off, none⟩ : Addr)).map (·.add (l * k))) = some (if n = l then (⟨b, off, none⟩ : Addr) else (⟨b, off, none⟩ : Addr).add (l * k)) := by split <;> rfl
          rw [e5] at a5
          exact ⟨_, by simp only [Instr.sliceAt, Sem.run_bind, run_underlying hu, Result.andThen_ok, Instr.sureAddr, Sem.run_pure, hbd, sz_run hk], a5⟩
        · cases h
      · cases h
    · cases h
  · rename_i e hu
    split at h
    · rename_i k hk
      split at h
      · rename_i g k' o off n
        split at h
        · rename_i hc
          obtain ⟨rfl, hmn⟩ := hc
          have hm : rmx = none := by cases rmx with
            | none => rfl
            | some r => cases mx with
              | none => exact h3.elim
              | some m => cases hmn
          subst hm
          obtain ⟨a, cap, rfl, hcap⟩ : ∃ a cap, r = .slice a n cap ∧ n ≤ cap := by
            rcases (hsInv hr).2 with ⟨b, cap, e, _, h5, _⟩ | ⟨rfl, a, cap, e, _⟩
            · exact ⟨_, _, e, h5⟩
            · exact ⟨_, _, e, Nat.zero_le _⟩
          obtain ⟨l, hh, a1, a2, a3, a4, a5⟩ := cutH_den h hcap hr h1 h2
          have hbd := run_bounds (P := P) (w := w) (isS := true) (len := n) (cap := cap) (l := l) (h := hh) (m := cap) (lo := rlo) (hi := rhi) (mx := none) (.inl ⟨rfl, rfl⟩) a4 a3 a1 (by omega)
          exact ⟨_, by simp only [Instr.sliceAt, Sem.run_bind, run_underlying hu, Result.andThen_ok, Instr.slice, hbd, sz_run hk, Sem.run_pure], a5⟩
        · cases h
      rename_i x' hnh
      split at h
      · rename_i es hes
        have hd := esOf_den hes hr
        have hshape : ∃ a cap, r = .slice a es.length cap ∧ es.length ≤ cap := by
          rcases hd.slInv with ⟨a0, rfl, rfl⟩ | ⟨cap, b, off, c, rfl, hcap, _⟩
          · exact ⟨a0, 0, rfl, Nat.le_refl _⟩
          · exact ⟨_, _, rfl, hcap.1⟩
        obtain ⟨a, cap, rfl, hcap⟩ := hshape
        have fin : ∀ (l hh m : Nat), l ≤ hh → hh ≤ es.length → hh ≤ m → m ≤ cap → (Instr.sliceBounds true es.length cap rlo rhi rmx).run P w = .ok (l, hh, m) w →
            ∃ u, (Instr.sliceAt t (.slice a es.length cap) rlo rhi rmx).run P w = .ok u w ∧ Den F φ w u (.sl k ((es.take hh).drop l)) := fun l hh m a1 a2 a3 a4 hb =>
          ⟨_, by simp only [Instr.sliceAt, Sem.run_bind, run_underlying hu, Result.andThen_ok, Instr.slice, hb, sz_run hk, Sem.run_pure], .d (sliceD_den hd rfl a1 a2 a3 a4)⟩
        split at h
        · rename_i l hh hl hhh
          split at h
          · rename_i hc; cases h
            obtain ⟨c1, c2, c3⟩ := hc
            obtain ⟨l, rfl⟩ := Int.eq_ofNat_of_zero_le c1
            obtain ⟨hh, rfl⟩ := Int.eq_ofNat_of_zero_le (Int.le_trans c1 c2)
            have hm : rmx = none := by cases rmx with
              | none => rfl
              | some r => exact h3.elim
            subst hm
            exact fin l hh cap (by omega) (by omega) (by omega) (Nat.le_refl _) (run_bounds (.inl ⟨rfl, rfl⟩)
              (by rcases bound_cases hhh h2 with ⟨a, _, b⟩ | ⟨k, a, _⟩
                  · exact .inl ⟨a, by omega⟩
                  · exact .inr ⟨k, a⟩)
              (by rcases bound_cases hl h1 with ⟨a, _, b⟩ | ⟨k, a, _⟩
                  · exact .inl ⟨a, by omega⟩
                  · exact .inr ⟨k, a⟩) (by omega) (by omega))
          · cases h
        · rename_i l hh m hl hhh
          split at h
          · rename_i hc; cases h
            obtain ⟨c1, c2, c3, c4, c5⟩ := hc
            obtain ⟨l, rfl⟩ := Int.eq_ofNat_of_zero_le c1
            obtain ⟨hh, rfl⟩ := Int.eq_ofNat_of_zero_le (Int.le_trans c1 c2)
            cases rmx with
            | none => exact h3.elim
            | some rm =>
              obtain ⟨km, rfl⟩ := intOfV_inv c5 h3
              have hs : rhi.isSome = true := by
                rcases bound_cases hhh h2 with ⟨_, a, _⟩ | ⟨k, a, _⟩
                · rw [a] at c4; cases c4
                · rw [a]; rfl
              have hb : (Instr.sliceBounds true es.length cap rlo rhi (some (.int km (hh : Int)))).run P w = .ok (l, hh, hh) w := run_bounds (.inr ⟨km, rfl, by omega, hs⟩)
                (by rcases bound_cases hhh h2 with ⟨a, _, b⟩ | ⟨k, a, _⟩
                    · exact .inl ⟨a, by omega⟩
                    · exact .inr ⟨k, a⟩)
                (by rcases bound_cases hl h1 with ⟨a, _, b⟩ | ⟨k, a, _⟩
                    · exact .inl ⟨a, by omega⟩
                    · exact .inr ⟨k, a⟩) (by omega) (Nat.le_refl _)
              have hden := sliceD_den (m := hh) hd rfl (show l ≤ hh by omega) (by omega) (Nat.le_refl _) (by omega)
              exact ⟨_, by simp only [Instr.sliceAt, Sem.run_bind, run_underlying hu, Result.andThen_ok, Instr.slice, hb, sz_run hk, Sem.run_pure], .full hden (by simp; omega)⟩
          · cases h
        · cases h
      · cases h
    · cases h
  · cases h

theorem lenV_run {t ty : TypeId} {x v : V} (h : lenV P t x = some v) {r : Value} (hr : Den F φ w r x) : ∃ u, (Builtin.len_ #[t] ty #[r]).run P w = .ok u w ∧ Den F φ w u v := by
  unfold lenV at h
  split at h
  · rename_i hu
    split at h
    · cases h
      obtain ⟨rfl, _⟩ := hr.sc
      exact ⟨_, by simp [Builtin.len_, run_underlying hu, goInt], den_sc rfl⟩
    · cases h
  · rename_i n e hu
    cases h
    exact ⟨_, by simp [Builtin.len_, run_underlying hu, goInt], den_sc rfl⟩
  · rename_i e hu
    have key : ∀ {k : Nat} {es : List (List D)}, DenD F φ w r (.sl k es) → (Builtin.len_ #[t] ty #[r]).run P w = .ok (.int .i64 es.length) w := fun hd => by
      rcases hd.slInv with ⟨a0, rfl, rfl⟩ | ⟨cap, b, off, c, rfl, hcap, _⟩
      · simp [Builtin.len_, run_underlying hu, goInt]
      · simp [Builtin.len_, run_underlying hu, goInt]
    split at h
    · cases h; exact ⟨_, key (esOf_den (k := _) (v := .d (.sl _ _)) (if_pos rfl) hr), den_sc rfl⟩
    · cases h; exact ⟨_, key (esOf_den (k := _) (v := .own _ _ _) (if_pos rfl) hr), den_sc rfl⟩
    · cases h; exact ⟨_, key (esOf_den (k := _) (v := .full _ _) (if_pos rfl) hr), den_sc rfl⟩
    · cases h
      obtain ⟨rfl, _⟩ := hr.sc
      exact ⟨_, by simp [Builtin.len_, run_underlying hu, goInt], den_sc rfl⟩
    · cases h
      obtain ⟨a, cap, rfl⟩ : ∃ a cap, r = .slice a (_ : Nat) cap := by
        rcases (hsInv hr).2 with ⟨b, cap, e, _⟩ | ⟨rfl, a, cap, e, _⟩
        · exact ⟨_, _, e⟩
        · exact ⟨_, _, e⟩
      exact ⟨_, by simp [Builtin.len_, run_underlying hu, goInt], den_sc rfl⟩
    · cases h
  · cases h
end
end

section
open Go Go.RowKit
set_option linter.unusedVariables false
set_option linter.unusedSimpArgs false
variable {F : Fr}

section
variable {P : Program} {F : Fr} {φ : List Pl} {w : World}

/-- A new variable. -/
theorem newVar_den {h : List Ho} (hi : Inv F φ w h) {n : Nat} (hn : φ[n]? = some .yet) (T : TypeId) {r : Value} {v : V} (hr : Den F φ w r v) (h1 : (cellsV v).all isOne = true) :
    (newVar T r).run P w = .ok ⟨w.heap.size, 0, none⟩ (w.alloc (.cells r.cells T)) ∧ Ext φ w (φ.set n (.obj w.heap.size r.cells.size)) (w.alloc (.cells r.cells T)) ∧
    Inv F (φ.set n (.obj w.heap.size r.cells.size)) (w.alloc (.cells r.cells T)) (h.set n (.cells (cellsV v))) ∧ Den F (φ.set n (.obj w.heap.size r.cells.size)) (w.alloc (.cells r.cells T)) (.pointer (some ⟨w.heap.size, 0, none⟩)) (.ptr n 0) := by
  obtain ⟨a1, a2⟩ := more_alloc w (.cells r.cells T)
  have hp : ∀ b, (Pl.obj w.heap.size r.cells.size).blk = some b → w.heap.size ≤ b := fun b hb => by cases hb; exact Nat.le_refl _
  have he := Ext.fill (φ := φ) (.obj w.heap.size r.cells.size) hn a1 a2 hp
  obtain ⟨hd, ho⟩ := cells_den hr h1
  have hat : (φ.set n (.obj w.heap.size r.cells.size))[n]? = some (.obj w.heap.size r.cells.size) := List.getElem?_set_self (get_lt hn)
  refine ⟨by simp [newVar, newRow], he, hi.fill _ _ hn a1 a2 hp ?_, ?_⟩
  · refine ⟨r.cells, ⟨T, heap_alloc_new w _⟩, rfl, by rw [← hd.length]; simp, fun j x hx => ?_⟩
    obtain ⟨u, hu⟩ := ofLtL (xs := r.cells.toList) (i := j) (by rw [hd.length]; exact get_lt hx)
    exact ⟨u, by simpa using hu, ho u (List.mem_of_getElem? hu), (hd.get j u x hu hx).ext he⟩
  · refine .ptr ⟨_, hat, by simp⟩ fun b' hb' => ?_
    rw [hat] at hb'; cases hb'; rfl

theorem box_gd {h : List Ho} (hi : Inv F φ w h) {n : Nat} (hn : φ[n]? = some .yet) (T : TypeId) {r : Value} {v : V} (hr : Den F φ w r v) (h1 : (cellsV v).all isOne = true) :
    ∃ u w', (Instr.box T r).run P w = .ok u w' ∧ ∃ φ', Ext φ w φ' w' ∧ Inv F φ' w' (h.set n (.cells (cellsV v))) ∧ Den F φ' w' u (.ptr n 0) := by
  obtain ⟨a, b, c, d⟩ := newVar_den (P := P) hi hn T hr h1
  exact ⟨_, _, by simp only [Instr.box, Sem.run_bind, a, Result.andThen_ok, Sem.run_pure], _, b, c, d⟩

theorem zeroVs_den {t : TypeId} {cs : List V} (h : zeroVs P t = some cs) : ∃ z, (zeroValue t).run P w = .ok z w ∧ DenL F φ w z.cells.toList cs ∧ (∀ x ∈ z.cells.toList, flat x = true) ∧ cs = z.cells.toList.map V.sc := by
  unfold zeroVs at h
  split at h
  · rename_i z hz
    split at h
    · rename_i hf
      cases h
      have hf' : ∀ x ∈ z.cells.toList, flat x = true := fun x hx => Array.all_eq_true_iff_forall_mem.1 hf x (by simpa using hx)
      refine ⟨z, ?_, ?_, hf', rfl⟩
      · unfold zeroT at hz
        cases hq : P.info? t with
        | none => simp [hq] at hz
        | some i =>
          have : i.zero = some z := by simpa [hq] using hz
          simp [zeroValue, typeInfo, hq, this]
      · exact .of_get (by simp) fun i r v hr hv => by
          rw [List.getElem?_map, hr] at hv
          cases hv
          exact den_sc (hf' r (List.mem_of_getElem? hr))
    · cases h
  · cases h

theorem alloc_gd {h : List Ho} (hi : Inv F φ w h) {n : Nat} (hn : φ[n]? = some .yet) (T : TypeId) {cs : List V} (hz : zeroVs P T = some cs) :
    ∃ u w', (Instr.alloc T true (.tuple #[])).run P w = .ok u w' ∧ ∃ φ', Ext φ w φ' w' ∧ Inv F φ' w' (h.set n (.cells cs)) ∧ Den F φ' w' u (.ptr n 0) := by
  obtain ⟨z, hrun, hd, hf, hcs⟩ := zeroVs_den (φ := φ) (w := w) hz
  have hden : Den F φ w (.agg z.cells) (.agg cs) := .agg (by have := hd.length; simpa using this) (fun i r hr => flat_one (hf r (List.mem_of_getElem? (by simpa using hr)))) (fun i r v hr hv => hd.get i r v (by simpa using hr) hv)
  have hall : (cellsV (.agg cs)).all isOne = true := by
    subst hcs
    simp [cellsV, isOne]
  obtain ⟨a, b, c, d⟩ := newVar_den (P := P) hi hn T hden hall
  have a' : (newVar T z).run P w = .ok ⟨w.heap.size, 0, none⟩ (w.alloc (.cells z.cells T)) := by simp [newVar, newRow]
  exact ⟨_, _, by simp only [Instr.alloc, Sem.run_bind, hrun, Result.andThen_ok, a', Sem.run_pure]; rfl, _, b, c, d⟩

/-! ### Literals -/
theorem foldl_splice : ∀ (vs : List Value) (k off : Nat) (cells : Array Value), off + k + vs.length ≤ cells.size →
    ((vs.zipIdx k).foldl (fun cs (c, j) => cs.setIfInBounds (off + j) c) cells).toList = cells.toList.take (off + k) ++ vs ++ cells.toList.drop (off + k + vs.length)
  | [], k, off, cells, _ => by simp
  | v :: vs, k, off, cells, h => by
    simp only [List.zipIdx_cons, List.foldl_cons]
    rw [foldl_splice vs (k + 1) off _ (by simp at h ⊢; omega)]
    have e := list_seg_step cells.toList (off + k) v vs (by simp at h ⊢; omega)
    simpa [Array.toList_setIfInBounds, Nat.add_assoc] using e

theorem fillV_run {place : Nat → Option (Nat × Nat)} : ∀ {ps : List (Nat × V)} {rps : List (Nat × Value)} {cs out : List V} {cells : Array Value}, fillV place cs ps = some out →
    rps.map (·.1) = ps.map (·.1) → DenL F φ w (rps.map (·.2)) (ps.map (·.2)) → DenL F φ w cells.toList cs → (∀ x ∈ cells.toList, x.oneCell' = true) →
    ∃ res, Instr.fill place cells rps = some res ∧ DenL F φ w res.toList out ∧ ∀ x ∈ res.toList, x.oneCell' = true
  | [], [], cs, out, cells, h, _, _, hc, h1 => by simp only [fillV] at h; cases h; exact ⟨cells, rfl, hc, h1⟩
  | [], _ :: _, _, _, _, _, h, _, _, _ => by simp at h
  | _ :: _, [], _, _, _, _, h, _, _, _ => by simp at h
  | (i, v) :: ps, (i', r) :: rps, cs, out, cells, h, hi, hd, hc, h1 => by
    simp only [List.map_cons, List.cons.injEq] at hi
    obtain ⟨rfl, hi⟩ := hi
    cases hd with
    | cons hd hds =>
      unfold fillV at h
      split at h
      · rename_i off size hp
        split at h
        · rename_i hcond
          obtain ⟨c1, c2, c3⟩ := hcond
          obtain ⟨hdc, hone⟩ := cells_den hd c3
          have hlen := hdc.length
          have hcl := hc.length
          simp only [Array.length_toList] at hlen hcl
          unfold Instr.fill
          simp only [hp]
          have n1 : ¬ ((r.cells.size ≠ size || decide (off + r.cells.size > cells.size)) = true) := by simp; omega
          rw [if_neg n1]
          have hf := foldl_splice r.cells.toList 0 off cells (by simp; omega)
          simp only [Nat.add_zero] at hf
          have hsz : off + (cellsV v).length ≤ cs.length := by omega
          refine fillV_run h hi hds ?_ ?_
          · rw [show r.cells.zipIdx.foldl (fun cs (c, j) => cs.setIfInBounds (off + j) c) cells = (r.cells.toList.zipIdx 0).foldl (fun cs (c, j) => cs.setIfInBounds (off + j) c) cells by
              rw [← Array.toList_zipIdx, Array.foldl_toList], hf]
            have hk : (cellsV v).length = r.cells.toList.length := by simp; omega
            refine .of_get ?_ fun j x y hx hy => ?_
            · rw [splice_len _ _ _ (by simp; omega), ← c1, splice_len _ _ _ hsz]; simpa using hcl
            · rw [splice_get _ _ _ (by simp; omega)] at hx
              rw [← c1, splice_get _ _ _ hsz] at hy
              rw [hk] at hy
              by_cases g1 : j < off
              · rw [if_pos g1] at hx hy; exact hc.get j x y hx hy
              · rw [if_neg g1] at hx hy
                by_cases g2 : j < off + r.cells.toList.length
                · rw [if_pos g2] at hx hy; exact hdc.get _ x y hx hy
                · rw [if_neg g2] at hx hy; exact hc.get j x y hx hy
          · rw [show r.cells.zipIdx.foldl (fun cs (c, j) => cs.setIfInBounds (off + j) c) cells = (r.cells.toList.zipIdx 0).foldl (fun cs (c, j) => cs.setIfInBounds (off + j) c) cells by
              rw [← Array.toList_zipIdx, Array.foldl_toList], hf]
            intro x hx
            simp only [List.mem_append] at hx
            rcases hx with (hx | hx) | hx
            · exact h1 x (List.mem_of_mem_take hx)
            · exact hone x hx
            · exact h1 x (List.mem_of_mem_drop hx)
        · cases h
      · cases h

theorem build_run {t : TypeId} {z out : List V} {ps : List (Nat × V)} {rps : Array (Nat × Value)} (hz : zeroVs P t = some z) (h : fillV (placeOf P t) z ps = some out)
    (hi : rps.toList.map (·.1) = ps.map (·.1)) (hd : DenL F φ w (rps.toList.map (·.2)) (ps.map (·.2))) (hk : (placesT P t).isSome = true ∨ (elemT P t).isSome = true) :
    ∃ u, (Instr.build t rps).run P w = .ok u w ∧ Den F φ w u (.agg out) := by
  obtain ⟨zv, hzr, hzd, hzf, _⟩ := zeroVs_den (φ := φ) (w := w) hz
  obtain ⟨res, hf, hrd, h1⟩ := fillV_run h hi hd hzd fun x hx => flat_one (hzf x hx)
  have hden : Den F φ w (.agg res) (.agg out) := .agg (by have := hrd.length; simpa using this) (fun i r hr => h1 r (List.mem_of_getElem? (by simpa using hr))) (fun i r v hr hv => hrd.get i r v (by simpa using hr) hv)
  refine ⟨_, ?_, hden⟩
  have hinfo : ∃ i, P.info? t = some i ∧ i.zero = some zv := by
    unfold zeroValue typeInfo at hzr
    cases hq : P.info? t with
    | none => simp [hq] at hzr
    | some i =>
      refine ⟨i, rfl, ?_⟩
      cases hq2 : i.zero with
      | none => simp [hq, hq2] at hzr
      | some z' => simp [hq, hq2] at hzr; rw [hzr]
  obtain ⟨it, hit, hitz⟩ := hinfo
  refine run_build w t rps res ?_
  unfold Program.built
  cases hu : P.underlying t with
  | none => simp [placesT, elemT, hu] at hk
  | some d =>
    cases d with
    | struct fs =>
      have hk' : (placesT P t).isSome = true := by
        rcases hk with hk | hk
        · exact hk
        · simp [elemT, hu] at hk
      obtain ⟨pl, hpl⟩ := Option.isSome_iff_exists.1 hk'
      have hpl' := hpl
      simp only [placesT, hu] at hpl
      simp only [hit, hitz, hpl]
      rw [← hf]
      congr 1
      funext i
      simp [placeOf, hpl']
    | array n e =>
      simp only [hit, hitz]
      have hpn : placesT P t = none := by simp [placesT, hu]
      cases hie : P.info? e with
      | none => simp [placesT, elemT, hu, szT, hie] at hk
      | some ie =>
        simp only []
        rw [← hf]
        congr 1
        funext i
        simp [placeOf, hpn, elemT, hu, szT, hie]
    | _ => simp [placesT, elemT, hu] at hk

/-- A slice literal's block. -/
theorem run_buildSlice0 {t e : TypeId} {len : Nat} {parts : Array (Nat × Value)} {cells : Array Value} {k : Nat} {z : Value} (hu : P.underlying t = some (.slice e)) (hk : szT P e = some k) (hz : zeroT P e = some z)
    (hs : len * k ≤ 16777216) (h : Instr.fill (fun i => some (i * k, k)) ((Array.range (len * k)).map (z.cells[· % z.cells.size]!)) parts.toList = some cells) :
    (Instr.buildSlice t len parts).run P w = .ok (.slice (some ⟨w.heap.size, 0, none⟩) len len) (w.alloc (.cells cells e)) := by
  have hs' : ¬ len * k > 2 ^ 24 := by omega
  have hzr : (zeroValue e).run P w = .ok z w := by
    unfold zeroT at hz
    cases hq : P.info? e with
    | none => simp [hq] at hz
    | some i =>
      have : i.zero = some z := by simpa [hq] using hz
      simp [zeroValue, typeInfo, hq, this]
  by_cases h0 : len * k = 0
  · rw [h0] at h
    simp only [Array.range_zero', Array.map_empty] at h
    simp only [Instr.buildSlice, Sem.run_bind, run_underlying hu, Result.andThen_ok, sz_run hk, Sem.run_ite, if_neg hs', Sem.run_pure, h0, if_true, Array.range_zero', Array.map_empty, h, newRow, run_newObj_alloc]
    rw [if_neg (by omega)]
  · simp only [Instr.buildSlice, Sem.run_bind, run_underlying hu, Result.andThen_ok, sz_run hk, Sem.run_ite, if_neg hs', Sem.run_pure, if_neg h0, hzr, h, newRow, run_newObj_alloc]

/-- Cells that bear a list of elements. -/
def Bear (F : Fr) (φ : List Pl) (w : World) (k : Nat) (cells : Array Value) (es : List (List D)) : Prop :=
  cells.size = es.length * k ∧ (∀ (i : Nat) (e : List D), es[i]? = some e → e.length = k) ∧ (∀ x ∈ cells.toList, x.oneCell' = true) ∧
  ∀ (i : Nat) (e : List D) (j : Nat) (x : D), es[i]? = some e → e[j]? = some x → ∃ r, cells[i * k + j]? = some r ∧ DenD F φ w r x

theorem Bear.ext {φ' : List Pl} {w' : World} (he : Ext φ w φ' w') {k : Nat} {cells : Array Value} {es : List (List D)} (h : Bear F φ w k cells es) : Bear F φ' w' k cells es :=
  ⟨h.1, h.2.1, h.2.2.1, fun i e j x h1 h2 => let ⟨r, a, b⟩ := h.2.2.2 i e j x h1 h2; ⟨r, a, b.ext he⟩⟩

/-- Such cells in a block that nothing may change. -/
theorem Bear.den {k b : Nat} {es : List (List D)} {cells blk : Array Value} {T : TypeId} {fr : Nat × Nat} (h : Bear F φ w k cells es) (hb : w.heap[b]? = some (.cells blk T fr)) (hpre : ∀ i, i < cells.size → blk[i]? = cells[i]?)
    (hp : ∀ o, o < cells.size → prot F φ w b o) (cap : Nat) (hcap : es.length ≤ cap ∧ cap ≤ 9223372036854775807) : DenD F φ w (.slice (some ⟨b, 0, none⟩) es.length cap) (.sl k es) := by
  obtain ⟨h1, h2, h3, h4⟩ := h
  have idx : ∀ i j, i < es.length → j < k → i * k + j < cells.size := fun i j hi hj => by
    rw [h1]
    have : (i + 1) * k ≤ es.length * k := Nat.mul_le_mul_right k hi
    rw [Nat.add_mul] at this
    omega
  refine .sl (fun i j => (cells[i * k + j]?).getD undef) rfl hcap h2 (fun i j hi hj => ?_) fun i e j x he hx => ?_
  · have hlt := idx i j hi hj
    refine ⟨by simpa using hp _ hlt, (cell_of w b _ _).2 ⟨blk, T, fr, hb, ?_⟩⟩
    simp only [Nat.zero_add]
    rw [hpre _ hlt, Array.getElem?_eq_getElem hlt]; rfl
  · obtain ⟨r, hr, hd⟩ := h4 i e j x he hx
    rw [hr]; exact hd

theorem toDs_den : ∀ {vs : List V} {ds : List D} {rs : List Value}, toDs vs = some ds → DenL F φ w rs vs → ds.length = rs.length ∧ ∀ (j : Nat) (x : D), ds[j]? = some x → ∃ r, rs[j]? = some r ∧ DenD F φ w r x
  | [], ds, rs, h, hd => by
    cases hd
    simp only [toDs] at h; cases h
    exact ⟨rfl, fun j x hx => by simp at hx⟩
  | v :: vs, ds, rs, h, hd => by
    cases hd with
    | cons hd hds =>
      unfold toDs at h
      split at h
      · rename_i x xs h1 h2
        cases h
        obtain ⟨a, b⟩ := toDs_den h2 hds
        refine ⟨by simp [a], fun j y hy => ?_⟩
        cases j with
        | zero => simp at hy; subst hy; exact ⟨_, rfl, toD_den h1 hd⟩
        | succ j => simpa using b j y (by simpa using hy)
      · cases h
theorem toDs_one : ∀ {vs : List V} {ds : List D}, toDs vs = some ds → vs.all isOne = true
  | [], ds, h => rfl
  | v :: vs, ds, h => by
    unfold toDs at h
    split at h
    · rename_i x xs h1 h2
      have : isOne v = true := by
        unfold toD at h1
        split at h1 <;> first | rfl | cases h1
      simp [this, toDs_one h2]
    · cases h

theorem partsEs_run {k : Nat} : ∀ {ps : List (Nat × V)} {rps : List (Nat × Value)} {es out : List (List D)} {cells : Array Value}, partsEs k es ps = some out →
    rps.map (·.1) = ps.map (·.1) → DenL F φ w (rps.map (·.2)) (ps.map (·.2)) → Bear F φ w k cells es →
    ∃ res, Instr.fill (fun i => some (i * k, k)) cells rps = some res ∧ Bear F φ w k res out ∧ out.length = es.length
  | [], [], es, out, cells, h, _, _, hc => by simp only [partsEs] at h; cases h; exact ⟨cells, rfl, hc, rfl⟩
  | [], _ :: _, _, _, _, _, h, _, _ => by simp at h
  | _ :: _, [], _, _, _, _, h, _, _ => by simp at h
  | (i0, v) :: ps, (i, r) :: rps, es, out, cells, h, hi, hd, hc => by
    simp only [List.map_cons, List.cons.injEq] at hi
    obtain ⟨rfl, hi⟩ := hi
    cases hd with
    | cons hd hds =>
      unfold partsEs at h
      split at h
      · rename_i c hcv
        split at h
        · rename_i hcond
          obtain ⟨c1, c2⟩ := hcond
          obtain ⟨hdc, hone⟩ := cells_den hd (toDs_one hcv)
          obtain ⟨hl, hg⟩ := toDs_den hcv hdc
          obtain ⟨b1, b2, b3, b4⟩ := hc
          have hlen : r.cells.size = k := by rw [← c1, hl]; simp
          have hle : i * k + k ≤ cells.size := by
            rw [b1]
            have : (i + 1) * k ≤ es.length * k := Nat.mul_le_mul_right k c2
            rw [Nat.add_mul] at this; omega
          unfold Instr.fill
          have n1 : ¬ ((r.cells.size ≠ k || decide (i * k + r.cells.size > cells.size)) = true) := by simp; omega
          simp only []
          rw [if_neg n1]
          have hf := foldl_splice r.cells.toList 0 (i * k) cells (by simp; omega)
          simp only [Nat.add_zero] at hf
          have hf' : (r.cells.zipIdx.foldl (fun cs (c, j) => cs.setIfInBounds (i * k + j) c) cells).toList = cells.toList.take (i * k) ++ r.cells.toList ++ cells.toList.drop (i * k + r.cells.toList.length) := by
            rw [← hf, ← Array.toList_zipIdx, Array.foldl_toList]
          have hrl : r.cells.toList.length = k := by simpa using hlen
          generalize hX : r.cells.zipIdx.foldl (fun cs (c, j) => cs.setIfInBounds (i * k + j) c) cells = X at hf'
          have hsz : X.size = cells.size := by
            rw [← Array.length_toList, hf', splice_len _ _ _ (by rw [hrl]; simpa using hle)]; simp
          have hget : ∀ j, X[j]? = if j < i * k then cells[j]? else if j < i * k + k then r.cells[j - i * k]? else cells[j]? := fun j => by
            rw [← Array.getElem?_toList, hf', splice_get _ _ _ (by rw [hrl]; simpa using hle), hrl]
            simp
          obtain ⟨res, g1, g2, g3⟩ := partsEs_run (cells := X) h hi hds ⟨by rw [hsz, b1]; simp, fun i' e he => by
              rcases get_set he with ⟨rfl, rfl, _⟩ | ⟨_, he⟩
              · exact c1
              · exact b2 i' e he, fun x hx => by
              rw [hf'] at hx
              simp only [List.mem_append] at hx
              rcases hx with (hx | hx) | hx
              · exact b3 x (List.mem_of_mem_take hx)
              · exact hone x hx
              · exact b3 x (List.mem_of_mem_drop hx), fun i' e j x he hx => by
              rw [hget]
              rcases get_set he with ⟨rfl, rfl, _⟩ | ⟨hne, he⟩
              · have hj := get_lt hx
                obtain ⟨u, hu, hdu⟩ := hg j x hx
                refine ⟨u, ?_, hdu⟩
                rw [if_neg (by omega), if_pos (by omega), show i' * k + j - i' * k = j by omega]
                simpa using hu
              · have hj : j < k := by have := get_lt hx; rw [b2 i' e he] at this; exact this
                obtain ⟨u, hu, hdu⟩ := b4 i' e j x he hx
                refine ⟨u, ?_, hdu⟩
                by_cases hlt : i' < i
                · have : (i' + 1) * k ≤ i * k := Nat.mul_le_mul_right k hlt
                  rw [Nat.add_mul] at this
                  rw [if_pos (by omega)]; exact hu
                · have : (i + 1) * k ≤ i' * k := Nat.mul_le_mul_right k (by omega)
                  rw [Nat.add_mul] at this
                  rw [if_neg (by omega), if_neg (by omega)]; exact hu⟩
          exact ⟨res, g1, g2, by rw [g3]; simp⟩
        · cases h
      · cases h

theorem buildSlice_gd {h : List Ho} (hi : Inv F φ w h) {t : TypeId} {len : Nat} {ps : List (Nat × V)} {rps : Array (Nat × Value)} {v : V} (hb : buildSliceV P t len ps = some v)
    (hix : rps.toList.map (·.1) = ps.map (·.1)) (hd : DenL F φ w (rps.toList.map (·.2)) (ps.map (·.2))) :
    ∃ u w', (Instr.buildSlice t len rps).run P w = .ok u w' ∧ ∃ φ', Ext φ w φ' w' ∧ Inv F φ' w' h ∧ Den F φ' w' u v := by
  unfold buildSliceV at hb
  split at hb
  · rename_i e hu
    split at hb
    · rename_i k z hk hz
      split at hb
      · rename_i hcond
        obtain ⟨c0, c1, c2, c3⟩ := hcond
        obtain ⟨es, hes, rfl⟩ := Option.map_eq_some_iff.1 hb
        have hf' : ∀ x ∈ z.cells.toList, flat x = true := fun x hx => Array.all_eq_true_iff_forall_mem.1 c3 x (by simpa using hx)
        have hzl : z.cells.toList.length = k := by simpa using c2
        have zget : ∀ m, m < len * k → ((Array.range (len * k)).map (z.cells[· % z.cells.size]!))[m]? = some (z.cells[m % k]'(by rw [c2]; exact Nat.mod_lt _ c0)) := fun m hm => by
          have hmk : m % k < z.cells.size := by rw [c2]; exact Nat.mod_lt _ c0
          simp only [Array.getElem?_map, Array.getElem?_range, hm, if_true, Option.map_some, c2]
          rw [getElem!_pos z.cells (m % k) hmk]
        have hbear : Bear F φ w k ((Array.range (len * k)).map (z.cells[· % z.cells.size]!)) (List.replicate len (z.cells.toList.map D.sc)) := by
          refine ⟨by simp, fun i e he => ?_, fun x hx => ?_, fun i e j x he hx => ?_⟩
          · rw [List.getElem?_replicate] at he
            split at he
            · cases he; simpa using hzl
            · cases he
          · obtain ⟨m, hm⟩ := List.mem_iff_getElem?.1 hx
            rw [Array.getElem?_toList] at hm
            have hlt := getLt hm
            rw [zget m (by simpa using hlt)] at hm
            cases hm
            exact flat_one (hf' _ (by simp))
          · rw [List.getElem?_replicate] at he
            split at he
            · rename_i hil
              cases he
              have hj := get_lt hx
              simp only [List.length_map, hzl] at hj
              have hlt : i * k + j < len * k := by
                have : (i + 1) * k ≤ len * k := Nat.mul_le_mul_right k hil
                rw [Nat.add_mul] at this; omega
              rw [List.getElem?_map] at hx
              obtain ⟨y, hy, rfl⟩ := Option.map_eq_some_iff.1 hx
              have hmod : (i * k + j) % k = j := by rw [Nat.mul_comm, Nat.mul_add_mod]; exact Nat.mod_eq_of_lt hj
              refine ⟨y, ?_, .sc (hf' y (List.mem_of_getElem? hy))⟩
              rw [zget _ hlt]
              rw [Array.getElem?_toList] at hy
              obtain ⟨hh, he⟩ := Array.getElem?_eq_some_iff.1 hy
              simp only [hmod, he]
            · cases he
        obtain ⟨res, g1, g2, g3⟩ := partsEs_run hes hix hd hbear
        have g3' : es.length = len := by simpa using g3
        have hrun := run_buildSlice0 (P := P) (w := w) hu hk hz c1 g1
        obtain ⟨a1, a2⟩ := more_alloc w (.cells res e)
        have he := Ext.more (φ := φ) a1 a2
        refine ⟨_, _, hrun, φ, he, hi.more a1 a2, ?_⟩
        have hnew : (w.alloc (.cells res e)).heap[w.heap.size]? = some (.cells res e (0, 0)) := heap_alloc_new w _
        have hpr : ∀ o, o < res.size → prot F φ (w.alloc (.cells res e)) w.heap.size o := fun o _ => by
          refine ⟨heap_lt hnew, fun i hi' => ?_, fun i e' hi' => ?_, fun hF => absurd (hi.frB _ _ hF) (by omega)⟩
          · exact absurd (hi.lt hi' rfl) (by omega)
          · exact absurd (hi.lt hi' rfl) (by omega)
        have := (g2.ext he).den hnew (fun i _ => rfl) hpr len ⟨by omega, by
          have : len * 1 ≤ len * k := Nat.mul_le_mul_left len c0
          omega⟩
        rw [g3'] at this
        exact .full this g3'
      · cases hb
    · cases hb
  · cases hb

theorem makeSlice_gd {h : List Ho} (hi : Inv F φ w h) {t : TypeId} {kl kc : IntKind} {n m : Int} {v : V} (hm : makeSliceV P t (some n) (some m) = some v) :
    ∃ u w', (Instr.makeSlice t (.int kl n) (.int kc m)).run P w = .ok u w' ∧ ∃ φ', Ext φ w φ' w' ∧ Inv F φ' w' h ∧ Den F φ' w' u v := by
  unfold makeSliceV at hm
  split at hm
  · rename_i n' m' e e1 e2 hu
    cases e1; cases e2
    split at hm
    · rename_i k b z hk hb hz
      split at hm
      · rename_i hc
        obtain ⟨c0, c1, rfl, c3, c4, c5, c6⟩ := hc
        cases hm
        obtain ⟨n, rfl⟩ := Int.eq_ofNat_of_zero_le c1
        simp only [Int.toNat_natCast] at c3 c4 ⊢
        have hbs : buildSliceV P t n [] = some (.full k (zeros n (z.cells.toList.map D.sc))) := by
          unfold buildSliceV
          rw [hu]
          simp only [hk, hz]
          rw [if_pos ⟨c0, c3, c5, c6⟩]
          rfl
        obtain ⟨u, w', h1, h2⟩ := buildSlice_gd (P := P) hi (rps := #[]) hbs rfl .nil
        refine ⟨u, w', ?_, h2⟩
        rw [← h1]
        obtain ⟨i, hi1, hi2, hi3, hi4⟩ : ∃ i, P.info? e = some i ∧ i.size = k ∧ i.bytes = b ∧ i.zero = some z := by
          unfold szT at hk; unfold byT at hb; unfold zeroT at hz
          cases hq : P.info? e with
          | none => simp [hq] at hk
          | some i => exact ⟨i, rfl, by simpa [hq] using hk, by simpa [hq] using hb, by simpa [hq] using hz⟩
        have hn : n * 1 ≤ n * k := Nat.mul_le_mul_left n c0
        have h3 := run_makeSlice (P := P) (w := w) t e i z hu hi1 hi4 kl kc (n : Int) (n : Int) c1 (Int.le_refl _) (by rw [hi2]; simpa using c3) (by rw [hi3]; omega) (by omega)
        have h4 := run_buildSlice0 (P := P) (w := w) (t := t) (e := e) (len := n) (parts := #[]) (k := k) (z := z) hu hk hz c3 (by simp [Instr.fill]; rfl)
        rw [h3, h4, hi2]
        simp only [Int.toNat_natCast, madeCells]
      · cases hm
    · cases hm
  · cases hm
end
end
end Go.Proofs.YtonllhjmoenckaaDoor
