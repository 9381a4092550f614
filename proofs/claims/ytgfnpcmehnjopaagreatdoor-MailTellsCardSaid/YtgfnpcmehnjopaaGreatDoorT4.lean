/- Parts of the proofs, joined: VsF. -/
import Derived.Test.YtgfnpcmehnjopaaGreatDoorT3
import Derived.Laws.MakeOwn
import Derived.Laws.AppendOwn
import Derived.MapKept
namespace Go.Proofs.YtgfnpcmehnjopaaGreatDoor
section
section
open Go Go.RowKit
set_option linter.unusedVariables false
set_option linter.unusedSimpArgs false
variable {F : Fr}
section
variable {P : Program} {F : Fr} {φ : List Pl} {w : World}
theorem sz_run {t : TypeId} {n : Nat} (h : szT P t = some n) : (sizeOf t).run P w = .ok n w := by
  unfold szT at h
  cases hq : P.info? t with
  | none => simp [hq] at h
  | some i => simp [sizeOf, typeInfo, hq]; simpa [hq] using h
theorem intOfV_inv {v : V} {n : Int} (h : intOfV v = some n) {r : Value} (hr : Den F φ w r v) : ∃ k, r = .int k n := by
  unfold intOfV at h
  split at h <;> cases h
  exact ⟨_, hr.sc.1⟩
theorem hsInv {r : Value} {g : Bool} {k o off n : Nat} (h : Den F φ w r (.hs g k o off n)) :
    lv φ o ∧ ((∃ b cap, r = .slice (some ⟨b, off, none⟩) n cap ∧ (∀ {z : Nat} b', φ[o]? = some (Pl.obj b' z) → b' = b ∧ (g = true → off + cap * k ≤ z)) ∧ n ≤ cap ∧ cap ≤ 9223372036854775807 ∧ (g = true → φ[o]? ≠ some Pl.free)) ∨
      (n = 0 ∧ ∃ a cap, r = .slice a 0 cap ∧ (a = none → cap = 0) ∧ cap ≤ 9223372036854775807 ∧ (g = true → cap = 0 ∧ ∀ {z : Nat} b', φ[o]? ≠ some (Pl.obj b' z)) ∧ (g = false → ∀ x, a = some x → x.spot = none))) := by
  cases h with
  | hs ho h hc hf => exact ⟨ho, .inl ⟨_, _, rfl, h, hc.1, hc.2, hf⟩⟩
  | hsE ho ha hc hsp => exact ⟨ho, .inr ⟨rfl, _, _, rfl, ha, hc, (fun e => by cases e), fun _ => hsp⟩⟩
  | hsN ho h => exact ⟨ho, .inr ⟨rfl, _, _, rfl, fun _ => rfl, by omega, fun _ => ⟨rfl, h⟩, (fun e => by cases e)⟩⟩
theorem indexAtV_run {t : TypeId} {x i v : V} (h : indexAtV P t x i = some v) {r s : Value} (hr : Den F φ w r x) (hs : Den F φ w s i) :
    ∃ u, (Instr.indexAt t r s).run P w = .ok u w ∧ Den F φ w u v := by
  unfold indexAtV at h
  split at h
  · cases h
  · rename_i n hn
    obtain ⟨kk, rfl⟩ := intOfV_inv hn hs
    split at h
    · rename_i h0
      split at h
      · rename_i xv e hu
        have hu' : P.underlying t = some (.slice (P.elem t)) := by simp [Program.elem, hu]
        have he : P.elem t = e := by simp [Program.elem, hu]
        split at h
        · rename_i k hk
          split at h
          · rename_i g k' o off len
            obtain ⟨ho, hh⟩ := hsInv hr
            split at h
            · rename_i hc; cases h
              obtain ⟨b, cap, rfl, hb, hcap⟩ : ∃ b cap, r = .slice (some ⟨b, off, none⟩) len cap ∧ (∀ {z : Nat} b', φ[o]? = some (Pl.obj b' z) → b' = b) ∧ len ≤ cap := by
                rcases hh with ⟨b, cap, e, h1, h2, _⟩ | ⟨e, _⟩
                · exact ⟨b, cap, e, fun b' hb' => (h1 b' hb').1, h2⟩
                · subst e; have := hc.2; omega
              have hc2 : 0 ≤ n ∧ n < (len : Int) := ⟨h0, hc.2⟩
              refine ⟨_, by rw [run_indexAt_slice w t _ _ _ _ _ hu', if_pos hc2, he, sz_run hk, Result.andThen_ok, add_addr], .ptr ho hb⟩
            · cases h
          · rename_i x'' hnh
            split at h
            · rename_i es hes
              obtain ⟨c, hc, rfl⟩ := Option.map_eq_some_iff.1 h
              have hd := esOf_den hes hr
              have hlt := get_lt hc
              rcases hd.slInv with ⟨a0, rfl, rfl⟩ | ⟨cap, b, off, f, rfl, hcap, hkk, hce, hde⟩
              · simp at hlt
              · have hc2 : 0 ≤ n ∧ n < (es.length : Int) := ⟨h0, by omega⟩
                refine ⟨_, by rw [run_indexAt_slice w t _ _ _ _ _ hu', if_pos hc2, he, sz_run hk, Result.andThen_ok, add_addr], ?_⟩
                exact .ep (at_ := off + n.toNat * k) (f n.toNat) rfl (fun j hj => hce _ _ hlt (by rw [← hkk _ _ hc]; exact hj)) (fun j x hx => hde _ _ _ _ hc hx)
            · cases h
        · cases h
      · rename_i len e o off hu
        have hu' : P.underlying t = some (.array (P.arrayLen t) (P.elem t)) := by simp [Program.elem, Program.arrayLen, hu]
        have he : P.elem t = e := by simp [Program.elem, hu]
        have hlen : P.arrayLen t = len := by simp [Program.arrayLen, hu]
        split at h
        · rename_i k hk
          split at h
          · rename_i hc; cases h
            obtain ⟨b, rfl, ho, hb⟩ := hr.ptrInv
            have hc2 : 0 ≤ n ∧ n < (P.arrayLen t : Int) := ⟨h0, by rw [hlen]; exact hc⟩
            exact ⟨_, by rw [run_indexAt_array w t _ _ _ hu', if_pos hc2, he, sz_run hk, Result.andThen_ok, add_addr], .ptr ho hb⟩
          · cases h
        · cases h
      · rename_i len e c off hu
        have hu' : P.underlying t = some (.array (P.arrayLen t) (P.elem t)) := by simp [Program.elem, Program.arrayLen, hu]
        have he : P.elem t = e := by simp [Program.elem, hu]
        have hlen : P.arrayLen t = len := by simp [Program.arrayLen, hu]
        split at h
        · rename_i k hk
          split at h
          · rename_i hc; cases h
            obtain ⟨b, at_, f, rfl, hcc, hdd⟩ := hr.epInv
            have hc2 : 0 ≤ n ∧ n < (P.arrayLen t : Int) := ⟨h0, by rw [hlen]; exact hc⟩
            exact ⟨_, by rw [run_indexAt_array w t _ _ _ hu', if_pos hc2, he, sz_run hk, Result.andThen_ok, add_addr], .ep f (by omega) hcc hdd⟩
          · cases h
        · cases h
      · cases h
    · cases h
theorem indexV_run {t : TypeId} {x i v : V} (h : indexV P t x i = some v) {r s : Value} (hr : Den F φ w r x) (hs : Den F φ w s i) :
    ∃ u, (Instr.index t r s).run P w = .ok u w ∧ Den F φ w u v := by
  unfold indexV at h
  split at h
  · cases h
  · rename_i n hn
    obtain ⟨kk, rfl⟩ := intOfV_inv hn hs
    split at h
    · rename_i h0
      split at h
      · rename_i len e cs hu
        split at h
        · rename_i k hk
          split at h
          · rename_i hc
            obtain ⟨rs, rfl, h1, h2, h3⟩ := hr.aggInv
            obtain ⟨d, hd⟩ := Option.isSome_iff_exists.1 hc.2
            obtain ⟨u, hu1, hu2⟩ := partV_run h hd h1 h2 h3
            have hc2 : 0 ≤ n ∧ n < (len : Int) := ⟨h0, hc.1⟩
            exact ⟨u, by simp [Instr.index, asIntOf, run_underlying hu, hc2, sz_run hk, hu1], hu2⟩
          · cases h
        · cases h
      · rename_i s0 hu
        obtain ⟨rfl, _⟩ := hr.sc
        obtain ⟨b, hb, rfl⟩ := Option.map_eq_some_iff.1 h
        have hlt := get_lt hb
        have hb2 : s0[n.toNat]? = some b := by
          rw [ByteArray.toList_eq] at hb hlt
          have hsz : n.toNat < s0.size := by simpa using hlt
          rw [getElem?_pos s0 n.toNat hsz]
          simp at hb
          rw [Array.getElem?_eq_getElem (by exact hsz)] at hb
          simpa [ByteArray.getElem_eq_getElem_data] using hb
        exact ⟨_, by simp [Instr.index, asIntOf, run_underlying hu, h0, hb2], den_sc rfl⟩
      · cases h
    · cases h
theorem sliceD_den {k n cap l h m : Nat} {es : List (List D)} {a : Option Addr} (hd : DenD F φ w (.slice a n cap) (.sl k es)) (hn : es.length = n) (hlh : l ≤ h) (hh : h ≤ n) (hm : h ≤ m) (hmc : m ≤ cap) :
    DenD F φ w (.slice (if m = l then a else a.map (·.add (l * k))) (h - l) (m - l)) (.sl k ((es.take h).drop l)) := by
  have hlen : ((es.take h).drop l).length = h - l := by simp; omega
  rcases hd.slInv with ⟨a0, e1, rfl⟩ | ⟨cap', b, off, c, e1, hcap, hk, hc, hde⟩
  · cases e1
    obtain rfl : m = 0 := by omega
    obtain rfl : h = 0 := by omega
    obtain rfl : l = 0 := by omega
    exact .nil
  · cases e1
    have get : ∀ (i : Nat) (e : List D), ((es.take h).drop l)[i]? = some e → es[l + i]? = some e := fun i e he => by
      rw [List.getElem?_drop, List.getElem?_take] at he
      split at he
      · exact he
      · cases he
    by_cases hml : m = l
    · rw [if_pos hml]
      have h0 : h - l = 0 := by omega
      have hem : (es.take h).drop l = [] := List.eq_nil_of_length_eq_zero (by omega)
      rw [h0, hem]
      exact .sl (fun _ _ => undef) rfl (by omega) (fun i e he => by simp at he) (fun i j hi => absurd hi (by omega)) (fun i e j x he => by simp at he)
    · rw [if_neg hml]
      simp only [Option.map_some, add_addr]
      refine .sl (fun i j => c (l + i) j) hlen (by omega) (fun i e he => hk _ _ (get i e he)) (fun i j hi hj => ?_) (fun i e j x he hx => hde _ _ _ _ (get i e he) hx)
      have := hc (l + i) j (by omega) hj
      rwa [show off + (l + i) * k + j = off + l * k + i * k + j by rw [Nat.add_mul]; omega] at this
theorem run_bounds {isS : Bool} {len cap l h m : Nat} {lo hi mx : Option Value}
    (hm : (mx = none ∧ m = cap) ∨ ∃ k, mx = some (.int k m) ∧ m ≤ cap ∧ hi.isSome = true) (hh : (hi = none ∧ h = len) ∨ ∃ k, hi = some (.int k h)) (hl : (lo = none ∧ l = 0) ∨ ∃ k, lo = some (.int k l)) (h1 : l ≤ h) (h2 : h ≤ m) :
    (Instr.sliceBounds isS len cap lo hi mx).run P w = .ok (l, h, m) w := by
  have bd : ∀ (k : IntKind) (x y : Nat) (c : BoundsCode), x ≤ y → (Instr.sliceBound (.int k x) y c).run P w = .ok x w := fun k x y c hxy => by
    have : (0 : Int) ≤ (x : Int) ∧ (x : Int) ≤ (y : Int) := ⟨by omega, by omega⟩
    simp [Instr.sliceBound, asIntOf, this, hxy]
  unfold Instr.sliceBounds
  rcases hm with ⟨rfl, rfl⟩ | ⟨km, rfl, hmc, hsome⟩
  · rcases hh with ⟨rfl, rfl⟩ | ⟨kh, rfl⟩ <;> rcases hl with ⟨rfl, rfl⟩ | ⟨kl, rfl⟩ <;>
      simp only [Sem.run_bind, Sem.run_pure, Result.andThen_ok, bd _ _ _ _ h1, bd _ _ _ _ h2]
  · rcases hh with ⟨rfl, rfl⟩ | ⟨kh, rfl⟩
    · simp at hsome
    · rcases hl with ⟨rfl, rfl⟩ | ⟨kl, rfl⟩ <;>
        simp only [Sem.run_bind, Sem.run_pure, Result.andThen_ok, bd _ _ _ _ h1, bd _ _ _ _ h2, bd _ _ _ _ hmc]
def DenO (F : Fr) (φ : List Pl) (w : World) : Option Value → Option V → Prop
  | none, none => True
  | some r, some v => Den F φ w r v
  | _, _ => False
theorem bound_cases {o : Option V} {d : Nat} {l : Int} (h : boundOf o d = some l) {ro : Option Value} (hr : DenO F φ w ro o) : (ro = none ∧ o = none ∧ l = d) ∨ ∃ k, ro = some (.int k l) ∧ o.isSome = true := by
  cases o with
  | none => cases ro with
    | none => simp only [boundOf] at h; cases h; exact .inl ⟨rfl, rfl, rfl⟩
    | some r => exact hr.elim
  | some v => cases ro with
    | none => exact hr.elim
    | some r =>
      simp only [boundOf] at h
      obtain ⟨k, rfl⟩ := intOfV_inv h hr
      exact .inr ⟨k, rfl, rfl⟩
theorem cutH_den {g : Bool} {k o off n cap : Nat} {lo hi : Option V} {v : V} (h : cutH g k o off n lo hi = some v) {a : Option Addr} {rlo rhi : Option Value} (hn : n ≤ cap)
    (hr : Den F φ w (.slice a n cap) (.hs g k o off n)) (h1 : DenO F φ w rlo lo) (h2 : DenO F φ w rhi hi) :
    ∃ l hh, l ≤ hh ∧ hh ≤ n ∧ ((rlo = none ∧ l = 0) ∨ ∃ k : IntKind, rlo = some (.int k (l : Int))) ∧ ((rhi = none ∧ hh = n) ∨ ∃ k : IntKind, rhi = some (.int k (hh : Int))) ∧
      Den F φ w (.slice (if cap = l then a else a.map (·.add (l * k))) (hh - l) (cap - l)) v := by
  unfold cutH at h
  split at h
  · rename_i l0 h0 hl0 hh0
    split at h
    · rename_i hc
      cases h
      obtain ⟨c1, c2, c3⟩ := hc
      obtain ⟨l, rfl⟩ := Int.eq_ofNat_of_zero_le c1
      obtain ⟨hh, rfl⟩ := Int.eq_ofNat_of_zero_le (Int.le_trans c1 c2)
      refine ⟨l, hh, by omega, by omega, ?_, ?_, ?_⟩
      · rcases bound_cases hl0 h1 with ⟨a, _, b⟩ | ⟨k, a, _⟩
        · exact .inl ⟨a, by omega⟩
        · exact .inr ⟨k, a⟩
      · rcases bound_cases hh0 h2 with ⟨a, _, b⟩ | ⟨k, a, _⟩
        · exact .inl ⟨a, by omega⟩
        · exact .inr ⟨k, a⟩
      · obtain ⟨ho, hcs⟩ := hsInv hr
        have e1 : ((hh : Int) - (l : Int)).toNat = hh - l := by omega
        have e2 : ((l : Int)).toNat = l := by omega
        rw [e1, e2]
        have hlb : (((l : Int) == 0) = true) ↔ l = 0 := by simp
        by_cases hz : l = 0
        · subst hz
          have : (if cap = 0 then a else a.map (·.add (0 * k))) = a := by
            split
            · rfl
            · cases a with
              | none => rfl
              | some a => simp [Addr.add]
          rw [this]
          simp only [Nat.sub_zero, Nat.zero_mul, Nat.add_zero]
          have eg : (g && ((0 : Nat) : Int) == 0) = g := by simp
          rw [eg]
          rcases hcs with ⟨b, cap', e, hb, hc1, hc2, hfr⟩ | ⟨rfl, a', cap', e, hc1, hc2, hc3, hc4⟩
          · cases e
            exact .hs ho hb ⟨by omega, hc2⟩ hfr
          · cases e
            obtain rfl : hh = 0 := by omega
            cases g with
            | false => exact .hsE ho hc1 hc2 (hc4 rfl)
            | true =>
              obtain ⟨rfl, h5⟩ := hc3 rfl
              exact .hsN ho h5
        · have eg : (g && ((l : Nat) : Int) == 0) = false := by simp [hz]
          rw [eg]
          rcases hcs with ⟨b, cap', e, hb, hc1, hc2, hfr⟩ | ⟨rfl, a', cap', e, hc1, hc2, hc3, hc4⟩
          · cases e
            by_cases hcl : cap = l
            · rw [if_pos hcl]
              have : hh - l = 0 := by omega
              rw [this]
              exact .hsE ho (fun e => by cases e) (by omega) (fun x hx => by cases hx; rfl)
            · rw [if_neg hcl]
              simp only [Option.map_some, add_addr]
              exact .hs ho (fun b' hb' => ⟨(hb b' hb').1, fun e => by cases e⟩) ⟨by omega, by omega⟩ (fun e => by cases e)
          · omega
    · cases h
  · cases h
theorem sliceV_run {t : TypeId} {x v : V} {lo hi mx : Option V} (h : sliceV P t x lo hi mx = some v) {r : Value} {rlo rhi rmx : Option Value} (hr : Den F φ w r x)
    (h1 : DenO F φ w rlo lo) (h2 : DenO F φ w rhi hi) (h3 : DenO F φ w rmx mx) : ∃ u, (Instr.sliceAt t r rlo rhi rmx).run P w = .ok u w ∧ Den F φ w u v := by
  unfold sliceV at h
  split at h
  · rename_i hu
    split at h
    · rename_i s
      obtain ⟨rfl, _⟩ := hr.sc
      have hm : rmx = none := by cases rmx with
        | none => rfl
        | some r => exact h3.elim
      subst hm
      split at h
      · rename_i l hh hl hhh
        split at h
        · rename_i hc; cases h
          obtain ⟨c1, c2, c3⟩ := hc
          obtain ⟨l, rfl⟩ := Int.eq_ofNat_of_zero_le c1
          obtain ⟨hh, rfl⟩ := Int.eq_ofNat_of_zero_le (Int.le_trans c1 c2)
          have hb := run_bounds (P := P) (w := w) (isS := false) (len := s.size) (cap := s.size) (l := l) (h := hh) (m := s.size) (lo := rlo) (hi := rhi) (mx := none) (.inl ⟨rfl, rfl⟩)
            (by rcases bound_cases hhh h2 with ⟨a, _, b⟩ | ⟨k, a, _⟩
                · exact .inl ⟨a, by omega⟩
                · exact .inr ⟨k, a⟩)
            (by rcases bound_cases hl h1 with ⟨a, _, b⟩ | ⟨k, a, _⟩
                · exact .inl ⟨a, by omega⟩
                · exact .inr ⟨k, a⟩) (by omega) (by omega)
          exact ⟨_, by simp [Instr.sliceAt, run_underlying hu, Instr.slice, hb], den_sc rfl⟩
        · cases h
      · cases h
    · cases h
  · rename_i u hu
    split at h
    · rename_i o off n e hu2
      have hm : rmx = none := by cases rmx with
        | none => rfl
        | some r => exact h3.elim
      subst hm
      split at h
      · rename_i k hk
        obtain ⟨b, rfl, ho, hb⟩ := hr.ptrInv
        split at h
        · rename_i hbig
          obtain ⟨l, hh, a1, a2, a3, a4, a5⟩ := cutH_den (cap := n) h (Nat.le_refl _) (.hs (b := b) ho (fun b' hb' => ⟨hb b' hb', fun e => by cases e⟩) ⟨Nat.le_refl _, hbig⟩ (fun e => by cases e)) h1 h2
          have hbd := run_bounds (P := P) (w := w) (isS := false) (len := n) (cap := n) (l := l) (h := hh) (m := n) (lo := rlo) (hi := rhi) (mx := none) (.inl ⟨rfl, rfl⟩) a4 a3 a1 a2
          have e5 : (if n = l then (some (⟨b, off, none⟩ : Addr)) else (some (⟨b, off, none⟩ : Addr)).map (·.add (l * k))) = some (if n = l then (⟨b, off, none⟩ : Addr) else (⟨b, off, none⟩ : Addr).add (l * k)) := by split <;> rfl
          rw [e5] at a5
          exact ⟨_, by simp only [Instr.sliceAt, Sem.run_bind, run_underlying hu, Result.andThen_ok, Instr.slice, asAddr, Sem.run_pure, run_underlying hu2, hbd, sz_run hk], a5⟩
        · cases h
      · cases h
    · cases h
  · rename_i n e hu
    split at h
    · rename_i o off
      have hm : rmx = none := by cases rmx with
        | none => rfl
        | some r => exact h3.elim
      subst hm
      split at h
      · rename_i k hk
        obtain ⟨b, rfl, ho, hb⟩ := hr.ptrInv
        split at h
        · rename_i hbig
          obtain ⟨l, hh, a1, a2, a3, a4, a5⟩ := cutH_den (cap := n) h (Nat.le_refl _) (.hs (b := b) ho (fun b' hb' => ⟨hb b' hb', fun e => by cases e⟩) ⟨Nat.le_refl _, hbig⟩ (fun e => by cases e)) h1 h2
          have hbd := run_bounds (P := P) (w := w) (isS := false) (len := n) (cap := n) (l := l) (h := hh) (m := n) (lo := rlo) (hi := rhi) (mx := none) (.inl ⟨rfl, rfl⟩) a4 a3 a1 a2
          have e5 : (if n = l then (some (⟨b, off, none⟩ : Addr)) else (some (⟨b, off, none⟩ : Addr)).map (·.add (l * k))) = some (if n = l then (⟨b, off, none⟩ : Addr) else (⟨b, off, none⟩ : Addr).add (l * k)) := by split <;> rfl
          rw [e5] at a5
          exact ⟨_, by simp only [Instr.sliceAt, Sem.run_bind, run_underlying hu, Result.andThen_ok, Instr.sureAddr, Sem.run_pure, hbd, sz_run hk], a5⟩
        · cases h
      · cases h
    · cases h
  · rename_i e hu
    split at h
    · rename_i k hk
      split at h
      · rename_i g k' o off n
        split at h
        · rename_i hc
          obtain ⟨rfl, hmn⟩ := hc
          have hm : rmx = none := by cases rmx with
            | none => rfl
            | some r => cases mx with
              | none => exact h3.elim
              | some m => cases hmn
          subst hm
          obtain ⟨a, cap, rfl, hcap⟩ : ∃ a cap, r = .slice a n cap ∧ n ≤ cap := by
            rcases (hsInv hr).2 with ⟨b, cap, e, _, h5, _⟩ | ⟨rfl, a, cap, e, _⟩
            · exact ⟨_, _, e, h5⟩
            · exact ⟨_, _, e, Nat.zero_le _⟩
          obtain ⟨l, hh, a1, a2, a3, a4, a5⟩ := cutH_den h hcap hr h1 h2
          have hbd := run_bounds (P := P) (w := w) (isS := true) (len := n) (cap := cap) (l := l) (h := hh) (m := cap) (lo := rlo) (hi := rhi) (mx := none) (.inl ⟨rfl, rfl⟩) a4 a3 a1 (by omega)
          exact ⟨_, by simp only [Instr.sliceAt, Sem.run_bind, run_underlying hu, Result.andThen_ok, Instr.slice, hbd, sz_run hk, Sem.run_pure], a5⟩
        · cases h
      rename_i x' hnh
      split at h
      · rename_i es hes
        have hd := esOf_den hes hr
        have hshape : ∃ a cap, r = .slice a es.length cap ∧ es.length ≤ cap := by
          rcases hd.slInv with ⟨a0, rfl, rfl⟩ | ⟨cap, b, off, c, rfl, hcap, _⟩
          · exact ⟨a0, 0, rfl, Nat.le_refl _⟩
          · exact ⟨_, _, rfl, hcap.1⟩
        obtain ⟨a, cap, rfl, hcap⟩ := hshape
        have fin : ∀ (l hh m : Nat), l ≤ hh → hh ≤ es.length → hh ≤ m → m ≤ cap → (Instr.sliceBounds true es.length cap rlo rhi rmx).run P w = .ok (l, hh, m) w →
            ∃ u, (Instr.sliceAt t (.slice a es.length cap) rlo rhi rmx).run P w = .ok u w ∧ Den F φ w u (.sl k ((es.take hh).drop l)) := fun l hh m a1 a2 a3 a4 hb =>
          ⟨_, by simp only [Instr.sliceAt, Sem.run_bind, run_underlying hu, Result.andThen_ok, Instr.slice, hb, sz_run hk, Sem.run_pure], .d (sliceD_den hd rfl a1 a2 a3 a4)⟩
        split at h
        · rename_i l hh hl hhh
          split at h
          · rename_i hc; cases h
            obtain ⟨c1, c2, c3⟩ := hc
            obtain ⟨l, rfl⟩ := Int.eq_ofNat_of_zero_le c1
            obtain ⟨hh, rfl⟩ := Int.eq_ofNat_of_zero_le (Int.le_trans c1 c2)
            have hm : rmx = none := by cases rmx with
              | none => rfl
              | some r => exact h3.elim
            subst hm
            exact fin l hh cap (by omega) (by omega) (by omega) (Nat.le_refl _) (run_bounds (.inl ⟨rfl, rfl⟩)
              (by rcases bound_cases hhh h2 with ⟨a, _, b⟩ | ⟨k, a, _⟩
                  · exact .inl ⟨a, by omega⟩
                  · exact .inr ⟨k, a⟩)
              (by rcases bound_cases hl h1 with ⟨a, _, b⟩ | ⟨k, a, _⟩
                  · exact .inl ⟨a, by omega⟩
                  · exact .inr ⟨k, a⟩) (by omega) (by omega))
          · cases h
        · rename_i l hh m hl hhh
          split at h
          · rename_i hc; cases h
            obtain ⟨c1, c2, c3, c4, c5⟩ := hc
            obtain ⟨l, rfl⟩ := Int.eq_ofNat_of_zero_le c1
            obtain ⟨hh, rfl⟩ := Int.eq_ofNat_of_zero_le (Int.le_trans c1 c2)
            cases rmx with
            | none => exact h3.elim
            | some rm =>
              obtain ⟨km, rfl⟩ := intOfV_inv c5 h3
              have hs : rhi.isSome = true := by
                rcases bound_cases hhh h2 with ⟨_, a, _⟩ | ⟨k, a, _⟩
                · rw [a] at c4; cases c4
                · rw [a]; rfl
              have hb : (Instr.sliceBounds true es.length cap rlo rhi (some (.int km (hh : Int)))).run P w = .ok (l, hh, hh) w := run_bounds (.inr ⟨km, rfl, by omega, hs⟩)
                (by rcases bound_cases hhh h2 with ⟨a, _, b⟩ | ⟨k, a, _⟩
                    · exact .inl ⟨a, by omega⟩
                    · exact .inr ⟨k, a⟩)
                (by rcases bound_cases hl h1 with ⟨a, _, b⟩ | ⟨k, a, _⟩
                    · exact .inl ⟨a, by omega⟩
                    · exact .inr ⟨k, a⟩) (by omega) (Nat.le_refl _)
              have hden := sliceD_den (m := hh) hd rfl (show l ≤ hh by omega) (by omega) (Nat.le_refl _) (by omega)
              exact ⟨_, by simp only [Instr.sliceAt, Sem.run_bind, run_underlying hu, Result.andThen_ok, Instr.slice, hb, sz_run hk, Sem.run_pure], .full hden (by simp; omega)⟩
          · cases h
        · cases h
      · cases h
    · cases h
  · cases h
theorem lenV_run {t ty : TypeId} {x v : V} (h : lenV P t x = some v) {r : Value} (hr : Den F φ w r x) : ∃ u, (Builtin.len_ #[t] ty #[r]).run P w = .ok u w ∧ Den F φ w u v := by
  unfold lenV at h
  split at h
  · rename_i hu
    split at h
    · cases h
      obtain ⟨rfl, _⟩ := hr.sc
      exact ⟨_, by simp [Builtin.len_, run_underlying hu, goInt], den_sc rfl⟩
    · cases h
  · rename_i n e hu
    cases h
    exact ⟨_, by simp [Builtin.len_, run_underlying hu, goInt], den_sc rfl⟩
  · rename_i e hu
    have key : ∀ {k : Nat} {es : List (List D)}, DenD F φ w r (.sl k es) → (Builtin.len_ #[t] ty #[r]).run P w = .ok (.int .i64 es.length) w := fun hd => by
      rcases hd.slInv with ⟨a0, rfl, rfl⟩ | ⟨cap, b, off, c, rfl, hcap, _⟩
      · simp [Builtin.len_, run_underlying hu, goInt]
      · simp [Builtin.len_, run_underlying hu, goInt]
    split at h
    · cases h; exact ⟨_, key (esOf_den (k := _) (v := .d (.sl _ _)) (if_pos rfl) hr), den_sc rfl⟩
    · cases h; exact ⟨_, key (esOf_den (k := _) (v := .own _ _ _) (if_pos rfl) hr), den_sc rfl⟩
    · cases h; exact ⟨_, key (esOf_den (k := _) (v := .full _ _) (if_pos rfl) hr), den_sc rfl⟩
    · cases h
      obtain ⟨rfl, _⟩ := hr.sc
      exact ⟨_, by simp [Builtin.len_, run_underlying hu, goInt], den_sc rfl⟩
    · cases h
      obtain ⟨a, cap, rfl⟩ : ∃ a cap, r = .slice a (_ : Nat) cap := by
        rcases (hsInv hr).2 with ⟨b, cap, e, _⟩ | ⟨rfl, a, cap, e, _⟩
        · exact ⟨_, _, e⟩
        · exact ⟨_, _, e⟩
      exact ⟨_, by simp [Builtin.len_, run_underlying hu, goInt], den_sc rfl⟩
    · cases h
  · cases h
end
end
section
open Go Go.RowKit
set_option linter.unusedVariables false
set_option linter.unusedSimpArgs false
variable {F : Fr}
section
variable {P : Program} {F : Fr} {φ : List Pl} {w : World}
theorem newVar_den {h : List Ho} (hi : Inv F φ w h) {n : Nat} (hn : φ[n]? = some .yet) (T : TypeId) {r : Value} {v : V} (hr : Den F φ w r v) (h1 : (cellsV v).all isOne = true) :
    (newVar T r).run P w = .ok ⟨w.heap.size, 0, none⟩ (w.alloc (.cells r.cells T)) ∧ Ext φ w (φ.set n (.obj w.heap.size r.cells.size)) (w.alloc (.cells r.cells T)) ∧
    Inv F (φ.set n (.obj w.heap.size r.cells.size)) (w.alloc (.cells r.cells T)) (h.set n (.cells (cellsV v))) ∧ Den F (φ.set n (.obj w.heap.size r.cells.size)) (w.alloc (.cells r.cells T)) (.pointer (some ⟨w.heap.size, 0, none⟩)) (.ptr n 0) := by
  obtain ⟨a1, a2⟩ := more_alloc w (.cells r.cells T)
  have hp : ∀ b, (Pl.obj w.heap.size r.cells.size).blk = some b → w.heap.size ≤ b := fun b hb => by cases hb; exact Nat.le_refl _
  have he := Ext.fill (φ := φ) (.obj w.heap.size r.cells.size) hn a1 a2 hp
  obtain ⟨hd, ho⟩ := cells_den hr h1
  have hat : (φ.set n (.obj w.heap.size r.cells.size))[n]? = some (.obj w.heap.size r.cells.size) := List.getElem?_set_self (get_lt hn)
  refine ⟨by simp [newVar, newRow], he, hi.fill _ _ hn a1 a2 hp ?_, ?_⟩
  · refine ⟨r.cells, ⟨T, heap_alloc_new w _⟩, rfl, by rw [← hd.length]; simp, fun j x hx => ?_⟩
    obtain ⟨u, hu⟩ := ofLtL (xs := r.cells.toList) (i := j) (by rw [hd.length]; exact get_lt hx)
    exact ⟨u, by simpa using hu, ho u (List.mem_of_getElem? hu), (hd.get j u x hu hx).ext he⟩
  · refine .ptr ⟨_, hat, by simp⟩ fun b' hb' => ?_
    rw [hat] at hb'; cases hb'; rfl
theorem box_gd {h : List Ho} (hi : Inv F φ w h) {n : Nat} (hn : φ[n]? = some .yet) (T : TypeId) {r : Value} {v : V} (hr : Den F φ w r v) (h1 : (cellsV v).all isOne = true) :
    ∃ u w', (Instr.box T r).run P w = .ok u w' ∧ ∃ φ', Ext φ w φ' w' ∧ Inv F φ' w' (h.set n (.cells (cellsV v))) ∧ Den F φ' w' u (.ptr n 0) := by
  obtain ⟨a, b, c, d⟩ := newVar_den (P := P) hi hn T hr h1
  exact ⟨_, _, by simp only [Instr.box, Sem.run_bind, a, Result.andThen_ok, Sem.run_pure], _, b, c, d⟩
theorem zeroVs_den {t : TypeId} {cs : List V} (h : zeroVs P t = some cs) : ∃ z, (zeroValue t).run P w = .ok z w ∧ DenL F φ w z.cells.toList cs ∧ (∀ x ∈ z.cells.toList, flat x = true) ∧ cs = z.cells.toList.map V.sc := by
  unfold zeroVs at h
  split at h
  · rename_i z hz
    split at h
    · rename_i hf
      cases h
      have hf' : ∀ x ∈ z.cells.toList, flat x = true := fun x hx => Array.all_eq_true_iff_forall_mem.1 hf x (by simpa using hx)
      refine ⟨z, ?_, ?_, hf', rfl⟩
      · unfold zeroT at hz
        cases hq : P.info? t with
        | none => simp [hq] at hz
        | some i =>
          have : i.zero = some z := by simpa [hq] using hz
          simp [zeroValue, typeInfo, hq, this]
      · exact .of_get (by simp) fun i r v hr hv => by
          rw [List.getElem?_map, hr] at hv
          cases hv
          exact den_sc (hf' r (List.mem_of_getElem? hr))
    · cases h
  · cases h
theorem alloc_gd {h : List Ho} (hi : Inv F φ w h) {n : Nat} (hn : φ[n]? = some .yet) (T : TypeId) {cs : List V} (hz : zeroVs P T = some cs) :
    ∃ u w', (Instr.alloc T true (.tuple #[])).run P w = .ok u w' ∧ ∃ φ', Ext φ w φ' w' ∧ Inv F φ' w' (h.set n (.cells cs)) ∧ Den F φ' w' u (.ptr n 0) := by
  obtain ⟨z, hrun, hd, hf, hcs⟩ := zeroVs_den (φ := φ) (w := w) hz
  have hden : Den F φ w (.agg z.cells) (.agg cs) := .agg (by have := hd.length; simpa using this) (fun i r hr => flat_one (hf r (List.mem_of_getElem? (by simpa using hr)))) (fun i r v hr hv => hd.get i r v (by simpa using hr) hv)
  have hall : (cellsV (.agg cs)).all isOne = true := by
    subst hcs
    simp [cellsV, isOne]
  obtain ⟨a, b, c, d⟩ := newVar_den (P := P) hi hn T hden hall
  have a' : (newVar T z).run P w = .ok ⟨w.heap.size, 0, none⟩ (w.alloc (.cells z.cells T)) := by simp [newVar, newRow]
  exact ⟨_, _, by simp only [Instr.alloc, Sem.run_bind, hrun, Result.andThen_ok, a', Sem.run_pure]; rfl, _, b, c, d⟩
theorem foldl_splice : ∀ (vs : List Value) (k off : Nat) (cells : Array Value), off + k + vs.length ≤ cells.size →
    ((vs.zipIdx k).foldl (fun cs (c, j) => cs.setIfInBounds (off + j) c) cells).toList = cells.toList.take (off + k) ++ vs ++ cells.toList.drop (off + k + vs.length)
  | [], k, off, cells, _ => by simp
  | v :: vs, k, off, cells, h => by
    simp only [List.zipIdx_cons, List.foldl_cons]
    rw [foldl_splice vs (k + 1) off _ (by simp at h ⊢; omega)]
    have e := list_seg_step cells.toList (off + k) v vs (by simp at h ⊢; omega)
    simpa [Array.toList_setIfInBounds, Nat.add_assoc] using e
theorem fillV_run {place : Nat → Option (Nat × Nat)} : ∀ {ps : List (Nat × V)} {rps : List (Nat × Value)} {cs out : List V} {cells : Array Value}, fillV place cs ps = some out →
    rps.map (·.1) = ps.map (·.1) → DenL F φ w (rps.map (·.2)) (ps.map (·.2)) → DenL F φ w cells.toList cs → (∀ x ∈ cells.toList, x.oneCell' = true) →
    ∃ res, Instr.fill place cells rps = some res ∧ DenL F φ w res.toList out ∧ ∀ x ∈ res.toList, x.oneCell' = true
  | [], [], cs, out, cells, h, _, _, hc, h1 => by simp only [fillV] at h; cases h; exact ⟨cells, rfl, hc, h1⟩
  | [], _ :: _, _, _, _, _, h, _, _, _ => by simp at h
  | _ :: _, [], _, _, _, _, h, _, _, _ => by simp at h
  | (i, v) :: ps, (i', r) :: rps, cs, out, cells, h, hi, hd, hc, h1 => by
    simp only [List.map_cons, List.cons.injEq] at hi
    obtain ⟨rfl, hi⟩ := hi
    cases hd with
    | cons hd hds =>
      unfold fillV at h
      split at h
      · rename_i off size hp
        split at h
        · rename_i hcond
          obtain ⟨c1, c2, c3⟩ := hcond
          obtain ⟨hdc, hone⟩ := cells_den hd c3
          have hlen := hdc.length
          have hcl := hc.length
          simp only [Array.length_toList] at hlen hcl
          unfold Instr.fill
          simp only [hp]
          have n1 : ¬ ((r.cells.size ≠ size || decide (off + r.cells.size > cells.size)) = true) := by simp; omega
          rw [if_neg n1]
          have hf := foldl_splice r.cells.toList 0 off cells (by simp; omega)
          simp only [Nat.add_zero] at hf
          have hsz : off + (cellsV v).length ≤ cs.length := by omega
          refine fillV_run h hi hds ?_ ?_
          · rw [show r.cells.zipIdx.foldl (fun cs (c, j) => cs.setIfInBounds (off + j) c) cells = (r.cells.toList.zipIdx 0).foldl (fun cs (c, j) => cs.setIfInBounds (off + j) c) cells by
              rw [← Array.toList_zipIdx, Array.foldl_toList], hf]
            have hk : (cellsV v).length = r.cells.toList.length := by simp; omega
            refine .of_get ?_ fun j x y hx hy => ?_
            · rw [splice_len _ _ _ (by simp; omega), ← c1, splice_len _ _ _ hsz]; simpa using hcl
            · rw [splice_get _ _ _ (by simp; omega)] at hx
              rw [← c1, splice_get _ _ _ hsz] at hy
              rw [hk] at hy
              by_cases g1 : j < off
              · rw [if_pos g1] at hx hy; exact hc.get j x y hx hy
              · rw [if_neg g1] at hx hy
                by_cases g2 : j < off + r.cells.toList.length
                · rw [if_pos g2] at hx hy; exact hdc.get _ x y hx hy
                · rw [if_neg g2] at hx hy; exact hc.get j x y hx hy
          · rw [show r.cells.zipIdx.foldl (fun cs (c, j) => cs.setIfInBounds (off + j) c) cells = (r.cells.toList.zipIdx 0).foldl (fun cs (c, j) => cs.setIfInBounds (off + j) c) cells by
              rw [← Array.toList_zipIdx, Array.foldl_toList], hf]
            intro x hx
            simp only [List.mem_append] at hx
            rcases hx with (hx | hx) | hx
            · exact h1 x (List.mem_of_mem_take hx)
            · exact hone x hx
            · exact h1 x (List.mem_of_mem_drop hx)
        · cases h
      · cases h
theorem build_run {t : TypeId} {z out : List V} {ps : List (Nat × V)} {rps : Array (Nat × Value)} (hz : zeroVs P t = some z) (h : fillV (placeOf P t) z ps = some out)
    (hi : rps.toList.map (·.1) = ps.map (·.1)) (hd : DenL F φ w (rps.toList.map (·.2)) (ps.map (·.2))) (hk : (placesT P t).isSome = true ∨ (elemT P t).isSome = true) :
    ∃ u, (Instr.build t rps).run P w = .ok u w ∧ Den F φ w u (.agg out) := by
  obtain ⟨zv, hzr, hzd, hzf, _⟩ := zeroVs_den (φ := φ) (w := w) hz
  obtain ⟨res, hf, hrd, h1⟩ := fillV_run h hi hd hzd fun x hx => flat_one (hzf x hx)
  have hden : Den F φ w (.agg res) (.agg out) := .agg (by have := hrd.length; simpa using this) (fun i r hr => h1 r (List.mem_of_getElem? (by simpa using hr))) (fun i r v hr hv => hrd.get i r v (by simpa using hr) hv)
  refine ⟨_, ?_, hden⟩
  have hinfo : ∃ i, P.info? t = some i ∧ i.zero = some zv := by
    unfold zeroValue typeInfo at hzr
    cases hq : P.info? t with
    | none => simp [hq] at hzr
    | some i =>
      refine ⟨i, rfl, ?_⟩
      cases hq2 : i.zero with
      | none => simp [hq, hq2] at hzr
      | some z' => simp [hq, hq2] at hzr; rw [hzr]
  obtain ⟨it, hit, hitz⟩ := hinfo
  refine run_build w t rps res ?_
  unfold Program.built
  cases hu : P.underlying t with
  | none => simp [placesT, elemT, hu] at hk
  | some d =>
    cases d with
    | struct fs =>
      have hk' : (placesT P t).isSome = true := by
        rcases hk with hk | hk
        · exact hk
        · simp [elemT, hu] at hk
      obtain ⟨pl, hpl⟩ := Option.isSome_iff_exists.1 hk'
      have hpl' := hpl
      simp only [placesT, hu] at hpl
      simp only [hit, hitz, hpl]
      rw [← hf]
      congr 1
      funext i
      simp [placeOf, hpl']
    | array n e =>
      simp only [hit, hitz]
      have hpn : placesT P t = none := by simp [placesT, hu]
      cases hie : P.info? e with
      | none => simp [placesT, elemT, hu, szT, hie] at hk
      | some ie =>
        simp only []
        rw [← hf]
        congr 1
        funext i
        simp [placeOf, hpn, elemT, hu, szT, hie]
    | _ => simp [placesT, elemT, hu] at hk
theorem run_buildSlice0 {t e : TypeId} {len : Nat} {parts : Array (Nat × Value)} {cells : Array Value} {k : Nat} {z : Value} (hu : P.underlying t = some (.slice e)) (hk : szT P e = some k) (hz : zeroT P e = some z)
    (hs : len * k ≤ 16777216) (h : Instr.fill (fun i => some (i * k, k)) ((Array.range (len * k)).map (z.cells[· % z.cells.size]!)) parts.toList = some cells) :
    (Instr.buildSlice t len parts).run P w = .ok (.slice (some ⟨w.heap.size, 0, none⟩) len len) (w.alloc (.cells cells e)) := by
  have hs' : ¬ len * k > 2 ^ 24 := by omega
  have hzr : (zeroValue e).run P w = .ok z w := by
    unfold zeroT at hz
    cases hq : P.info? e with
    | none => simp [hq] at hz
    | some i =>
      have : i.zero = some z := by simpa [hq] using hz
      simp [zeroValue, typeInfo, hq, this]
  by_cases h0 : len * k = 0
  · rw [h0] at h
    simp only [Array.range_zero', Array.map_empty] at h
    simp only [Instr.buildSlice, Sem.run_bind, run_underlying hu, Result.andThen_ok, sz_run hk, Sem.run_ite, if_neg hs', Sem.run_pure, h0, if_true, Array.range_zero', Array.map_empty, h, newRow, run_newObj_alloc]
    rw [if_neg (by omega)]
  · simp only [Instr.buildSlice, Sem.run_bind, run_underlying hu, Result.andThen_ok, sz_run hk, Sem.run_ite, if_neg hs', Sem.run_pure, if_neg h0, hzr, h, newRow, run_newObj_alloc]
def Bear (F : Fr) (φ : List Pl) (w : World) (k : Nat) (cells : Array Value) (es : List (List D)) : Prop :=
  cells.size = es.length * k ∧ (∀ (i : Nat) (e : List D), es[i]? = some e → e.length = k) ∧ (∀ x ∈ cells.toList, x.oneCell' = true) ∧
  ∀ (i : Nat) (e : List D) (j : Nat) (x : D), es[i]? = some e → e[j]? = some x → ∃ r, cells[i * k + j]? = some r ∧ DenD F φ w r x
theorem Bear.ext {φ' : List Pl} {w' : World} (he : Ext φ w φ' w') {k : Nat} {cells : Array Value} {es : List (List D)} (h : Bear F φ w k cells es) : Bear F φ' w' k cells es :=
  ⟨h.1, h.2.1, h.2.2.1, fun i e j x h1 h2 => let ⟨r, a, b⟩ := h.2.2.2 i e j x h1 h2; ⟨r, a, b.ext he⟩⟩
theorem Bear.den {k b : Nat} {es : List (List D)} {cells blk : Array Value} {T : TypeId} {fr : Nat × Nat} (h : Bear F φ w k cells es) (hb : w.heap[b]? = some (.cells blk T fr)) (hpre : ∀ i, i < cells.size → blk[i]? = cells[i]?)
    (hp : ∀ o, o < cells.size → prot F φ w b o) (cap : Nat) (hcap : es.length ≤ cap ∧ cap ≤ 9223372036854775807) : DenD F φ w (.slice (some ⟨b, 0, none⟩) es.length cap) (.sl k es) := by
  obtain ⟨h1, h2, h3, h4⟩ := h
  have idx : ∀ i j, i < es.length → j < k → i * k + j < cells.size := fun i j hi hj => by
    rw [h1]
    have : (i + 1) * k ≤ es.length * k := Nat.mul_le_mul_right k hi
    rw [Nat.add_mul] at this
    omega
  refine .sl (fun i j => (cells[i * k + j]?).getD undef) rfl hcap h2 (fun i j hi hj => ?_) fun i e j x he hx => ?_
  · have hlt := idx i j hi hj
    refine ⟨by simpa using hp _ hlt, (cell_of w b _ _).2 ⟨blk, T, fr, hb, ?_⟩⟩
    simp only [Nat.zero_add]
    rw [hpre _ hlt, Array.getElem?_eq_getElem hlt]; rfl
  · obtain ⟨r, hr, hd⟩ := h4 i e j x he hx
    rw [hr]; exact hd
theorem toDs_den : ∀ {vs : List V} {ds : List D} {rs : List Value}, toDs vs = some ds → DenL F φ w rs vs → ds.length = rs.length ∧ ∀ (j : Nat) (x : D), ds[j]? = some x → ∃ r, rs[j]? = some r ∧ DenD F φ w r x
  | [], ds, rs, h, hd => by
    cases hd
    simp only [toDs] at h; cases h
    exact ⟨rfl, fun j x hx => by simp at hx⟩
  | v :: vs, ds, rs, h, hd => by
    cases hd with
    | cons hd hds =>
      unfold toDs at h
      split at h
      · rename_i x xs h1 h2
        cases h
        obtain ⟨a, b⟩ := toDs_den h2 hds
        refine ⟨by simp [a], fun j y hy => ?_⟩
        cases j with
        | zero => simp at hy; subst hy; exact ⟨_, rfl, toD_den h1 hd⟩
        | succ j => simpa using b j y (by simpa using hy)
      · cases h
theorem toDs_one : ∀ {vs : List V} {ds : List D}, toDs vs = some ds → vs.all isOne = true
  | [], ds, h => rfl
  | v :: vs, ds, h => by
    unfold toDs at h
    split at h
    · rename_i x xs h1 h2
      have : isOne v = true := by
        unfold toD at h1
        split at h1 <;> first | rfl | cases h1
      simp [this, toDs_one h2]
    · cases h
theorem partsEs_run {k : Nat} : ∀ {ps : List (Nat × V)} {rps : List (Nat × Value)} {es out : List (List D)} {cells : Array Value}, partsEs k es ps = some out →
    rps.map (·.1) = ps.map (·.1) → DenL F φ w (rps.map (·.2)) (ps.map (·.2)) → Bear F φ w k cells es →
    ∃ res, Instr.fill (fun i => some (i * k, k)) cells rps = some res ∧ Bear F φ w k res out ∧ out.length = es.length
  | [], [], es, out, cells, h, _, _, hc => by simp only [partsEs] at h; cases h; exact ⟨cells, rfl, hc, rfl⟩
  | [], _ :: _, _, _, _, _, h, _, _ => by simp at h
  | _ :: _, [], _, _, _, _, h, _, _ => by simp at h
  | (i0, v) :: ps, (i, r) :: rps, es, out, cells, h, hi, hd, hc => by
    simp only [List.map_cons, List.cons.injEq] at hi
    obtain ⟨rfl, hi⟩ := hi
    cases hd with
    | cons hd hds =>
      unfold partsEs at h
      split at h
      · rename_i c hcv
        split at h
        · rename_i hcond
          obtain ⟨c1, c2⟩ := hcond
          obtain ⟨hdc, hone⟩ := cells_den hd (toDs_one hcv)
          obtain ⟨hl, hg⟩ := toDs_den hcv hdc
          obtain ⟨b1, b2, b3, b4⟩ := hc
          have hlen : r.cells.size = k := by rw [← c1, hl]; simp
          have hle : i * k + k ≤ cells.size := by
            rw [b1]
            have : (i + 1) * k ≤ es.length * k := Nat.mul_le_mul_right k c2
            rw [Nat.add_mul] at this; omega
          unfold Instr.fill
          have n1 : ¬ ((r.cells.size ≠ k || decide (i * k + r.cells.size > cells.size)) = true) := by simp; omega
          simp only []
          rw [if_neg n1]
          have hf := foldl_splice r.cells.toList 0 (i * k) cells (by simp; omega)
          simp only [Nat.add_zero] at hf
          have hf' : (r.cells.zipIdx.foldl (fun cs (c, j) => cs.setIfInBounds (i * k + j) c) cells).toList = cells.toList.take (i * k) ++ r.cells.toList ++ cells.toList.drop (i * k + r.cells.toList.length) := by
            rw [← hf, ← Array.toList_zipIdx, Array.foldl_toList]
          have hrl : r.cells.toList.length = k := by simpa using hlen
          generalize hX : r.cells.zipIdx.foldl (fun cs (c, j) => cs.setIfInBounds (i * k + j) c) cells = X at hf'
          have hsz : X.size = cells.size := by
            rw [← Array.length_toList, hf', splice_len _ _ _ (by rw [hrl]; simpa using hle)]; simp
          have hget : ∀ j, X[j]? = if j < i * k then cells[j]? else if j < i * k + k then r.cells[j - i * k]? else cells[j]? := fun j => by
            rw [← Array.getElem?_toList, hf', splice_get _ _ _ (by rw [hrl]; simpa using hle), hrl]
            simp
          obtain ⟨res, g1, g2, g3⟩ := partsEs_run (cells := X) h hi hds ⟨by rw [hsz, b1]; simp, fun i' e he => by
              rcases get_set he with ⟨rfl, rfl, _⟩ | ⟨_, he⟩
              · exact c1
              · exact b2 i' e he, fun x hx => by
              rw [hf'] at hx
              simp only [List.mem_append] at hx
              rcases hx with (hx | hx) | hx
              · exact b3 x (List.mem_of_mem_take hx)
              · exact hone x hx
              · exact b3 x (List.mem_of_mem_drop hx), fun i' e j x he hx => by
              rw [hget]
              rcases get_set he with ⟨rfl, rfl, _⟩ | ⟨hne, he⟩
              · have hj := get_lt hx
                obtain ⟨u, hu, hdu⟩ := hg j x hx
                refine ⟨u, ?_, hdu⟩
                rw [if_neg (by omega), if_pos (by omega), show i' * k + j - i' * k = j by omega]
                simpa using hu
              · have hj : j < k := by have := get_lt hx; rw [b2 i' e he] at this; exact this
                obtain ⟨u, hu, hdu⟩ := b4 i' e j x he hx
                refine ⟨u, ?_, hdu⟩
                by_cases hlt : i' < i
                · have : (i' + 1) * k ≤ i * k := Nat.mul_le_mul_right k hlt
                  rw [Nat.add_mul] at this
                  rw [if_pos (by omega)]; exact hu
                · have : (i + 1) * k ≤ i' * k := Nat.mul_le_mul_right k (by omega)
                  rw [Nat.add_mul] at this
                  rw [if_neg (by omega), if_neg (by omega)]; exact hu⟩
          exact ⟨res, g1, g2, by rw [g3]; simp⟩
        · cases h
      · cases h
theorem buildSlice_gd {h : List Ho} (hi : Inv F φ w h) {t : TypeId} {len : Nat} {ps : List (Nat × V)} {rps : Array (Nat × Value)} {v : V} (hb : buildSliceV P t len ps = some v)
    (hix : rps.toList.map (·.1) = ps.map (·.1)) (hd : DenL F φ w (rps.toList.map (·.2)) (ps.map (·.2))) :
    ∃ u w', (Instr.buildSlice t len rps).run P w = .ok u w' ∧ ∃ φ', Ext φ w φ' w' ∧ Inv F φ' w' h ∧ Den F φ' w' u v := by
  unfold buildSliceV at hb
  split at hb
  · rename_i e hu
    split at hb
    · rename_i k z hk hz
      split at hb
      · rename_i hcond
        obtain ⟨c0, c1, c2, c3⟩ := hcond
        obtain ⟨es, hes, rfl⟩ := Option.map_eq_some_iff.1 hb
        have hf' : ∀ x ∈ z.cells.toList, flat x = true := fun x hx => Array.all_eq_true_iff_forall_mem.1 c3 x (by simpa using hx)
        have hzl : z.cells.toList.length = k := by simpa using c2
        have zget : ∀ m, m < len * k → ((Array.range (len * k)).map (z.cells[· % z.cells.size]!))[m]? = some (z.cells[m % k]'(by rw [c2]; exact Nat.mod_lt _ c0)) := fun m hm => by
          have hmk : m % k < z.cells.size := by rw [c2]; exact Nat.mod_lt _ c0
          simp only [Array.getElem?_map, Array.getElem?_range, hm, if_true, Option.map_some, c2]
          rw [getElem!_pos z.cells (m % k) hmk]
        have hbear : Bear F φ w k ((Array.range (len * k)).map (z.cells[· % z.cells.size]!)) (List.replicate len (z.cells.toList.map D.sc)) := by
          refine ⟨by simp, fun i e he => ?_, fun x hx => ?_, fun i e j x he hx => ?_⟩
          · rw [List.getElem?_replicate] at he
            split at he
            · cases he; simpa using hzl
            · cases he
          · obtain ⟨m, hm⟩ := List.mem_iff_getElem?.1 hx
            rw [Array.getElem?_toList] at hm
            have hlt := getLt hm
            rw [zget m (by simpa using hlt)] at hm
            cases hm
            exact flat_one (hf' _ (by simp))
          · rw [List.getElem?_replicate] at he
            split at he
            · rename_i hil
              cases he
              have hj := get_lt hx
              simp only [List.length_map, hzl] at hj
              have hlt : i * k + j < len * k := by
                have : (i + 1) * k ≤ len * k := Nat.mul_le_mul_right k hil
                rw [Nat.add_mul] at this; omega
              rw [List.getElem?_map] at hx
              obtain ⟨y, hy, rfl⟩ := Option.map_eq_some_iff.1 hx
              have hmod : (i * k + j) % k = j := by rw [Nat.mul_comm, Nat.mul_add_mod]; exact Nat.mod_eq_of_lt hj
              refine ⟨y, ?_, .sc (hf' y (List.mem_of_getElem? hy))⟩
              rw [zget _ hlt]
              rw [Array.getElem?_toList] at hy
              obtain ⟨hh, he⟩ := Array.getElem?_eq_some_iff.1 hy
              simp only [hmod, he]
            · cases he
        obtain ⟨res, g1, g2, g3⟩ := partsEs_run hes hix hd hbear
        have g3' : es.length = len := by simpa using g3
        have hrun := run_buildSlice0 (P := P) (w := w) hu hk hz c1 g1
        obtain ⟨a1, a2⟩ := more_alloc w (.cells res e)
        have he := Ext.more (φ := φ) a1 a2
        refine ⟨_, _, hrun, φ, he, hi.more a1 a2, ?_⟩
        have hnew : (w.alloc (.cells res e)).heap[w.heap.size]? = some (.cells res e (0, 0)) := heap_alloc_new w _
        have hpr : ∀ o, o < res.size → prot F φ (w.alloc (.cells res e)) w.heap.size o := fun o _ => by
          refine ⟨heap_lt hnew, fun i hi' => ?_, fun i e' hi' => ?_, fun hF => absurd (hi.frB _ _ hF) (by omega)⟩
          · exact absurd (hi.lt hi' rfl) (by omega)
          · exact absurd (hi.lt hi' rfl) (by omega)
        have := (g2.ext he).den hnew (fun i _ => rfl) hpr len ⟨by omega, by
          have : len * 1 ≤ len * k := Nat.mul_le_mul_left len c0
          omega⟩
        rw [g3'] at this
        exact .full this g3'
      · cases hb
    · cases hb
  · cases hb
theorem makeSlice_gd {h : List Ho} (hi : Inv F φ w h) {t : TypeId} {kl kc : IntKind} {n m : Int} {v : V} (hm : makeSliceV P t (some n) (some m) = some v) :
    ∃ u w', (Instr.makeSlice t (.int kl n) (.int kc m)).run P w = .ok u w' ∧ ∃ φ', Ext φ w φ' w' ∧ Inv F φ' w' h ∧ Den F φ' w' u v := by
  unfold makeSliceV at hm
  split at hm
  · rename_i n' m' e e1 e2 hu
    cases e1; cases e2
    split at hm
    · rename_i k b z hk hb hz
      split at hm
      · rename_i hc
        obtain ⟨c0, c1, rfl, c3, c4, c5, c6⟩ := hc
        cases hm
        obtain ⟨n, rfl⟩ := Int.eq_ofNat_of_zero_le c1
        simp only [Int.toNat_natCast] at c3 c4 ⊢
        have hbs : buildSliceV P t n [] = some (.full k (zeros n (z.cells.toList.map D.sc))) := by
          unfold buildSliceV
          rw [hu]
          simp only [hk, hz]
          rw [if_pos ⟨c0, c3, c5, c6⟩]
          rfl
        obtain ⟨u, w', h1, h2⟩ := buildSlice_gd (P := P) hi (rps := #[]) hbs rfl .nil
        refine ⟨u, w', ?_, h2⟩
        rw [← h1]
        obtain ⟨i, hi1, hi2, hi3, hi4⟩ : ∃ i, P.info? e = some i ∧ i.size = k ∧ i.bytes = b ∧ i.zero = some z := by
          unfold szT at hk; unfold byT at hb; unfold zeroT at hz
          cases hq : P.info? e with
          | none => simp [hq] at hk
          | some i => exact ⟨i, rfl, by simpa [hq] using hk, by simpa [hq] using hb, by simpa [hq] using hz⟩
        have hn : n * 1 ≤ n * k := Nat.mul_le_mul_left n c0
        have h3 := run_makeSlice (P := P) (w := w) t e i z hu hi1 hi4 kl kc (n : Int) (n : Int) c1 (Int.le_refl _) (by rw [hi2]; simpa using c3) (by rw [hi3]; omega) (by omega)
        have h4 := run_buildSlice0 (P := P) (w := w) (t := t) (e := e) (len := n) (parts := #[]) (k := k) (z := z) hu hk hz c3 (by simp [Instr.fill]; rfl)
        rw [h3, h4, hi2]
        simp only [Int.toNat_natCast, madeCells]
      · cases hm
    · cases hm
  · cases hm
end
end
end
section
open Go Go.RowKit
set_option linter.unusedVariables false
set_option linter.unusedSimpArgs false
variable {F : Fr}
section
variable {P : Program} {F : Fr} {φ : List Pl} {w : World}
theorem DenD.bear {k n cap b off : Nat} {es : List (List D)} (h0 : 0 < k) (h : DenD F φ w (.slice (some ⟨b, off, none⟩) n cap) (.sl k es)) (hn : es.length = n) :
    ∃ cells : Array Value, Bear F φ w k cells es ∧ ∀ j v, cells.toList[j]? = some v → w.cell? ((⟨b, off, none⟩ : Addr).add j) = some v := by
  rcases h.slInv with ⟨a0, e1, rfl⟩ | ⟨cap', b', off', c, e1, hcap, hk, hc, hd⟩
  · cases e1; exact ⟨#[], ⟨by simp, fun i e he => by simp at he, fun x hx => by simp at hx, fun i e j x he => by simp at he⟩, fun j v hj => by simp at hj⟩
  · cases e1
    have dm : ∀ q, q < es.length * k → q / k < es.length ∧ q % k < k ∧ q / k * k + q % k = q := fun q hq =>
      ⟨(Nat.div_lt_iff_lt_mul h0).2 hq, Nat.mod_lt _ h0, by rw [Nat.mul_comm]; exact Nat.div_add_mod q k⟩
    have hget : ∀ (j : Nat) (v : Value), ((List.range (es.length * k)).map fun q => c (q / k) (q % k))[j]? = some v → j < es.length * k ∧ v = c (j / k) (j % k) := fun j v hv => by
      rw [List.getElem?_map] at hv
      obtain ⟨q, hq, rfl⟩ := Option.map_eq_some_iff.1 hv
      have := get_lt hq
      simp only [List.length_range] at this
      rw [List.getElem?_range this] at hq; cases hq
      exact ⟨this, rfl⟩
    refine ⟨((List.range (es.length * k)).map fun q => c (q / k) (q % k)).toArray, ⟨by simp, hk, fun x hx => ?_, fun i e j x he hx => ?_⟩, fun j v hv => ?_⟩
    · obtain ⟨j, hj⟩ := List.mem_iff_getElem?.1 hx
      obtain ⟨hlt, rfl⟩ := hget j x (by simpa using hj)
      obtain ⟨d1, d2, _⟩ := dm j hlt
      obtain ⟨e, he⟩ := ofLtL d1
      obtain ⟨y, hy⟩ := ofLtL (xs := e) (i := j % k) (by rw [hk _ _ he]; exact d2)
      exact (hd _ _ _ _ he hy).one
    · have hi := get_lt he
      have hj : j < k := by have := get_lt hx; rw [hk i e he] at this; exact this
      have hlt : i * k + j < es.length * k := by
        have : (i + 1) * k ≤ es.length * k := Nat.mul_le_mul_right k hi
        rw [Nat.add_mul] at this; omega
      refine ⟨c i j, ?_, hd i e j x he hx⟩
      have e1 : (i * k + j) / k = i := by rw [Nat.mul_comm, Nat.mul_add_div h0, Nat.div_eq_of_lt hj, Nat.add_zero]
      have e2 : (i * k + j) % k = j := by rw [Nat.mul_comm, Nat.mul_add_mod]; exact Nat.mod_eq_of_lt hj
      simp only [List.getElem?_toArray, List.getElem?_map, List.getElem?_range hlt, Option.map_some, e1, e2]
    · obtain ⟨hlt, rfl⟩ := hget j v (by simpa using hv)
      obtain ⟨d1, d2, d3⟩ := dm j hlt
      rw [add_addr]
      have := (hc _ _ d1 d2).2
      rwa [Nat.add_assoc, d3] at this
theorem Bear.append {k : Nat} {a b : Array Value} {xs ys : List (List D)} (h : Bear F φ w k a xs) (h' : Bear F φ w k b ys) : Bear F φ w k (a ++ b) (xs ++ ys) := by
  obtain ⟨a1, a2, a3, a4⟩ := h
  obtain ⟨b1, b2, b3, b4⟩ := h'
  refine ⟨by simp [a1, b1, Nat.add_mul], fun i e he => ?_, fun x hx => ?_, fun i e j x he hx => ?_⟩
  · rw [List.getElem?_append] at he
    split at he
    · exact a2 i e he
    · exact b2 _ e he
  · simp only [Array.toList_append, List.mem_append] at hx
    rcases hx with hx | hx
    · exact a3 x hx
    · exact b3 x hx
  · rw [List.getElem?_append] at he
    split at he
    · obtain ⟨r, hr, hd⟩ := a4 i e j x he hx
      exact ⟨r, by rw [Array.getElem?_append_left (getLt hr)]; exact hr, hd⟩
    · rename_i hge
      obtain ⟨r, hr, hd⟩ := b4 _ e j x he hx
      refine ⟨r, ?_, hd⟩
      have e1 : i * k = xs.length * k + (i - xs.length) * k := by rw [← Nat.add_mul]; congr 1; omega
      rw [Array.getElem?_append_right (by omega), show i * k + j - a.size = (i - xs.length) * k + j by omega]
      exact hr
theorem Bear.nil {k : Nat} : Bear F φ w k #[] [] := ⟨by simp, fun i e h => by simp at h, fun x h => by simp at h, fun i e j x h => by simp at h⟩
theorem bs_len (l : List UInt8) : (bs l).length = l.length := by simp [bs]
theorem bs_get (l : List UInt8) (i : Nat) : (bs l)[i]? = (l[i]?).map fun b => [D.sc (.int .u8 b.toNat)] := by simp [bs]
theorem bear_bytes (l : List UInt8) : Bear F φ w 1 (l.map fun b => Value.int .u8 b.toNat).toArray (bs l) := by
  refine ⟨by simp [bs_len], fun i e he => ?_, fun x hx => ?_, fun i e j x he hx => ?_⟩
  · rw [bs_get] at he
    obtain ⟨b, _, rfl⟩ := Option.map_eq_some_iff.1 he
    rfl
  · simp at hx
    obtain ⟨b, _, rfl⟩ := hx
    rfl
  · rw [bs_get] at he
    obtain ⟨b, hb, rfl⟩ := Option.map_eq_some_iff.1 he
    have : j = 0 := by have := get_lt hx; simp at this; omega
    subst this
    simp at hx; subst hx
    exact ⟨.int .u8 b.toNat, by simp [hb], .sc rfl⟩
theorem srcOf_run {k : Nat} (h0 : 0 < k) {xt : TypeId} {x : V} {xs : List (List D)} (h : srcOf P k xt x = some xs) {r : Value} (hr : Den F φ w r x) :
    (∃ d, P.underlying xt = some d ∧ ∀ q, d ≠ .int q) ∧ (∀ w', (Builtin.lenOf r).run P w' = .ok xs.length w') ∧
      ∃ news : Array Value, Bear F φ w k news xs ∧ ∀ w', w'.heap = w.heap → (Builtin.firstCells k xs.length r).run P w' = .ok news w' := by
  unfold srcOf at h
  split at h
  · rename_i e hu
    refine ⟨⟨_, hu, by simp⟩, ?_⟩
    have hd := esOf_den h hr
    rcases hd.slInv with ⟨a0, rfl, rfl⟩ | ⟨cap, b, off, c, rfl, _⟩
    · exact ⟨fun w' => by simp [Builtin.lenOf], #[], .nil, fun w' _ => by cases a0 <;> simp [Builtin.firstCells, loadCells, loadCellsFrom]⟩
    · obtain ⟨cells, hb, hc⟩ := hd.bear h0 rfl
      refine ⟨fun w' => by simp [Builtin.lenOf], cells, hb, fun w' hw => ?_⟩
      have := run_firstCells_some (P := P) w' k xs.length ⟨b, off, none⟩ xs.length cap cells.toList (by simpa using hb.1) (fun j v hj => by
        have := hc j v hj
        unfold World.cell? at this ⊢
        rw [hw]; exact this)
      simpa using this
  · rename_i hu
    split at h
    · rename_i s
      split at h
      · rename_i hk; cases h; subst hk
        obtain ⟨rfl, _⟩ := hr.sc
        have hl : s.toList.length = s.size := by rw [ByteArray.toList_eq]; simp
        refine ⟨⟨_, hu, by simp⟩, fun w' => by simp [Builtin.lenOf, bs_len, hl], _, bear_bytes s.toList, fun w' _ => ?_⟩
        simp only [Builtin.firstCells, Sem.run_pure, bs_len, hl]
        congr 1
        have he : s.extract 0 s.size = s := by ext1; simp
        rw [he]
        apply Array.ext'
        simp [ByteArray.toList_eq]
      · cases h
    · cases h
  · cases h
theorem zeroT_run {t : TypeId} {z : Value} (h : zeroT P t = some z) : (zeroValue t).run P w = .ok z w := by
  unfold zeroT at h
  cases hq : P.info? t with
  | none => simp [hq] at h
  | some i =>
    have : i.zero = some z := by simpa [hq] using h
    simp [zeroValue, typeInfo, hq, this]
section
variable {st xt ty e : TypeId} {k b : Nat} {z : Value} (hu : P.underlying st = some (.slice e)) {dx : TypeDesc} (hx : P.underlying xt = some dx) (hxi : ∀ q, dx ≠ .int q)
  (hk : szT P e = some k) (hb : byT P e = some b) (hz : zeroT P e = some z) {x : Value} {m : Nat} (hl : ∀ w', (Builtin.lenOf x).run P w' = .ok m w') {news : Array Value}
  (hf : ∀ w' : World, w'.heap = w.heap → (Builtin.firstCells k m x).run P w' = .ok news w')
include hu hx hxi hk hb hz hl hf
omit hb hz in
theorem app_fit {g n cap : Nat} {cur : Array Value} {T : TypeId} (hg : w.heap[g]? = some (.cells cur T (0, 0))) (hfit : n * k + news.size ≤ cur.size) (h1 : ∀ v ∈ news.toList, v.oneCell' = true) (hroom : n + m ≤ cap) :
    (Builtin.append_ #[st, xt] ty #[.slice (some ⟨g, 0, none⟩) n cap, x]).run P w =
      .ok (.slice (some ⟨g, 0, none⟩) (n + m) cap) (w.setRow g (cur.toList.take (n * k) ++ news.toList ++ cur.toList.drop (n * k + news.toList.length)).toArray) := by
  have hst := run_storeCells_at (P := P) g (n * k) T news.toList 0 cur w hg (by simpa using hfit) h1
  simp only [Nat.add_zero] at hst
  have hz' : (dx matches TypeDesc.int _) = false := by cases dx <;> first | rfl | exact absurd rfl (hxi _)
  have hbad : (Addr.add ⟨g, 0, none⟩ (n * k)) = ⟨g, n * k, none⟩ := by rw [add_addr]; simp
  simp only [Builtin.append_, List.getElem?_toArray, List.getElem?_cons_zero, List.getElem?_cons_succ, Sem.run_bind, run_underlying hu, Result.andThen_ok, sz_run hk, run_underlying hx, Sem.run_pure]
  simp [hz', hl, hroom, hf w rfl, hbad, hst]
theorem app_grow {base : Option Addr} {n cap : Nat} {olds : Array Value} (hfo : ∀ w' : World, w'.heap = w.heap → (Builtin.firstCells k n (.slice base n cap)).run P w' = .ok olds w') (hg : cap < n + m)
    (hbd : (n + m) * b ≤ 140737488355328) (hbd2 : n + m ≤ 140737488355328) :
    (Builtin.append_ #[st, xt] ty #[.slice base n cap, x]).run P w =
      .ok (.slice (some ⟨w.heap.size, 0, none⟩) (n + m) (grownCap w (n + m) cap e)) (w.drew.alloc (.cells (olds ++ news ++ Builtin.zeroCells z.cells (grownCap w (n + m) cap e - (n + m))) e)) := by
  have hz' : (dx matches TypeDesc.int _) = false := by cases dx <;> first | rfl | exact absurd rfl (hxi _)
  have hn : ¬ (n + m ≤ cap) := by omega
  have hinfo : ∃ i, P.info? e = some i ∧ i.bytes = b := by
    unfold byT at hb
    cases hq : P.info? e with
    | none => simp [hq] at hb
    | some i => exact ⟨i, rfl, by simpa [hq] using hb⟩
  obtain ⟨i, hi, hib⟩ := hinfo
  have h48 : ¬ (Builtin.nextslicecap (n + m) cap * b > 2 ^ 48) := by
    have := growslice_fits (need := n + m) (old := cap) (bytes := b) hg hbd
    omega
  have h63 : ¬ (((n + m : Nat) : Int) > IntKind.i64.max) := by simp [IntKind.max, IntKind.signed, IntKind.bits]; omega
  have hd : ∀ w', (typeInfo e).run P w' = .ok i w' := fun w' => by simp [typeInfo, hi]
  simp only [Builtin.append_, List.getElem?_toArray, List.getElem?_cons_zero, List.getElem?_cons_succ, Sem.run_bind, run_underlying hu, Result.andThen_ok, sz_run hk, run_underlying hx, Sem.run_pure]
  have hask : ∀ (w' : World), (choose (.appendCap (n + m) cap e)).run P w' = .ok (grownCap w' (n + m) cap e) w'.drew := fun w' => by
    rw [run_choose_drew]; simp [Question.forced, grownCap]
  simp only [hz', hl, Bool.false_eq_true, if_false, Sem.run_bind, Result.andThen_ok, Sem.run_ite, if_neg hn, hd, hib, if_neg h48, hask, run_askRoom, hfo w.drew rfl, hf w.drew rfl, zeroT_run hz, Sem.run_pure, newRow, run_newObj_alloc, Bool.not_false, if_true, false_and, and_false]
  have h63' : ¬ (((n + m : Nat) : Int) > IntKind.i64.max ∧ (False ∨ b = 0)) := fun h => h63 h.1
  simp only [gt_iff_lt] at h63' ⊢
  simp [h63', h63]
  intro hcon
  exfalso
  omega
end
theorem drew_more (o : Obj) : w.heap.size ≤ (w.drew.alloc o).heap.size ∧ ∀ b, b < w.heap.size → (w.drew.alloc o).heap[b]? = w.heap[b]? := more_alloc w.drew o
theorem grow_gd {h : List Ho} (hi : Inv F φ w h) {rn : Nat} (hrn : φ[rn]? = some .yet) {st xt ty e : TypeId} {k b : Nat} {z : Value} (hu : P.underlying st = some (.slice e)) (hk : szT P e = some k) (hb : byT P e = some b) (hz : zeroT P e = some z) (h0 : 0 < k) (hzs : z.cells.size = k)
    {base : Option Addr} {n cap : Nat} {es xs : List (List D)} (hd : DenD F φ w (.slice base n cap) (.sl k es)) (hn : es.length = n) {x : V} {rx : Value} (hsrc : srcOf P k xt x = some xs) (hrx : Den F φ w rx x)
    (hg : cap < n + xs.length) (hbd : (es.length + xs.length) * b ≤ appBound) (hbd2 : es.length + xs.length ≤ appBound) :
    ∃ u w', (Builtin.append_ #[st, xt] ty #[.slice base n cap, rx]).run P w = .ok u w' ∧ ∃ φ', Ext φ w φ' w' ∧ Inv F φ' w' (h.set rn .tail) ∧ Den F φ' w' u (.own k (es ++ xs) rn) := by
  obtain ⟨⟨dx, hx, hxi⟩, hl, news, hnb, hf⟩ := srcOf_run h0 hsrc hrx
  have holds : ∃ olds : Array Value, Bear F φ w k olds es ∧ ∀ w' : World, w'.heap = w.heap → (Builtin.firstCells k n (.slice base n cap)).run P w' = .ok olds w' := by
    rcases hd.slInv with ⟨a0, e1, rfl⟩ | ⟨cap', b', off, c, e1, _⟩
    · cases e1; exact ⟨#[], .nil, fun w' _ => by cases base <;> simp [Builtin.firstCells, loadCells, loadCellsFrom]⟩
    · cases e1
      obtain ⟨cells, hbe, hc⟩ := hd.bear h0 hn
      refine ⟨cells, hbe, fun w' hw => ?_⟩
      have := run_firstCells_some (P := P) w' k es.length ⟨b', off, none⟩ es.length cap cells.toList (by simpa using hbe.1) (fun j v hj => by
        have := hc j v hj
        unfold World.cell? at this ⊢
        rw [hw]; exact this)
      simpa using this
  obtain ⟨olds, hob, hfo⟩ := holds
  simp only [appBound] at hbd hbd2
  have hrun := app_grow (ty := ty) hu hx hxi hk hb hz hl hf hfo hg (by rw [← hn]; omega) (by omega)
  have hge : n + xs.length ≤ grownCap w (n + xs.length) cap e := grownCap_ge w _ _ _
  have hGm : grownCap w (n + xs.length) cap e ≤ 9223372036854775807 := grownCap_le_maxLen w _ cap e (by unfold maxLen; omega)
  generalize hG : grownCap w (n + xs.length) cap e = G at hrun hge hGm
  generalize hblk : olds ++ news ++ Builtin.zeroCells z.cells (G - (n + xs.length)) = blk at hrun
  obtain ⟨a1, a2⟩ := drew_more (w := w) (.cells blk e)
  have hnew : (w.drew.alloc (.cells blk e)).heap[w.heap.size]? = some (.cells blk e (0, 0)) := heap_alloc_new w.drew _
  have hsz : blk.size = G * k := by
    rw [← hblk]
    simp only [Array.size_append, hob.1, hnb.1, size_zeroCells, hzs, ← Nat.add_mul]
    congr 1; omega
  have hp : ∀ b', (Pl.tail w.heap.size ((n + xs.length) * k)).blk = some b' → w.heap.size ≤ b' := fun b' h => by cases h; exact Nat.le_refl _
  have he := Ext.fill (φ := φ) (.tail w.heap.size ((n + xs.length) * k)) hrn a1 a2 hp
  have hat : (φ.set rn (.tail w.heap.size ((n + xs.length) * k)))[rn]? = some (.tail w.heap.size ((n + xs.length) * k)) := List.getElem?_set_self (get_lt hrn)
  have hbear : Bear F φ w k (olds ++ news) (es ++ xs) := hob.append hnb
  have hbs : (olds ++ news).size = (n + xs.length) * k := by rw [hbear.1]; simp [hn]
  have hle : (n + xs.length) * k ≤ G * k := Nat.mul_le_mul_right k hge
  refine ⟨_, _, hrun, _, he, hi.fill _ _ hrn a1 a2 hp ⟨blk, ⟨e, hnew⟩, by omega⟩, ?_⟩
  have hlen : (es ++ xs).length = n + xs.length := by simp [hn]
  have hpr : ∀ o, o < (olds ++ news).size → prot F (φ.set rn (.tail w.heap.size ((n + xs.length) * k))) (w.drew.alloc (.cells blk e)) w.heap.size o := fun o ho => by
    refine ⟨heap_lt hnew, fun i hi' => ?_, fun i e' hi' => ?_, fun hF => absurd (hi.frB _ _ hF) (by omega)⟩
    · rcases get_set hi' with ⟨_, h, _⟩ | ⟨_, h⟩
      · cases h
      · exact absurd (hi.lt h rfl) (by omega)
    · rcases get_set hi' with ⟨_, h, _⟩ | ⟨_, h⟩
      · cases h; omega
      · exact absurd (hi.lt h rfl) (by omega)
  have hden := (hbear.ext he).den hnew (fun i hlt => by rw [← hblk, Array.getElem?_append_left hlt]) hpr G ⟨by omega, hGm⟩
  rw [hlen] at hden
  refine .own ⟨_, hat, by simp⟩ hden hlen (fun b' e' hb' => ?_) (fun hb' => ?_) (fun b' hb' => ?_)
  · rw [hat] at hb'; cases hb'
    exact ⟨rfl, rfl, blk, e, hnew, hsz⟩
  · rw [hat] at hb'; cases hb'
  · rw [hat] at hb'; cases hb'
theorem exact_gd {h : List Ho} (hi : Inv F φ w h) {rn : Nat} (hrn : φ[rn]? = some .yet) {st xt ty e : TypeId} {k b : Nat} {z : Value} (hu : P.underlying st = some (.slice e)) (hk : szT P e = some k) (hb : byT P e = some b) (hz : zeroT P e = some z) (h0 : 0 < k) (hzs : z.cells.size = k)
    {r : Value} {es xs : List (List D)} (hd : DenD F φ w r (.sl k es)) (hr : ∃ a : Option Addr, r = .slice a es.length es.length) {x : V} {rx : Value} (hsrc : srcOf P k xt x = some xs) (hrx : Den F φ w rx x)
    (hbd : (es.length + xs.length) * b ≤ appBound) (hbd2 : es.length + xs.length ≤ appBound) :
    ∃ u w', (Builtin.append_ #[st, xt] ty #[r, rx]).run P w = .ok u w' ∧ ∃ φ', Ext φ w φ' w' ∧ Inv F φ' w' (h.set rn .tail) ∧ Den F φ' w' u (.own k (es ++ xs) rn) := by
  obtain ⟨a, rfl⟩ := hr
  by_cases hx0 : xs = []
  · subst hx0
    obtain ⟨⟨dx, hx, hxi⟩, hl, news, hnb, hf⟩ := srcOf_run h0 hsrc hrx
    have hn0 : news = #[] := Array.eq_empty_of_size_eq_zero (by simpa using hnb.1)
    subst hn0
    have hp : ∀ b', (Pl.free).blk = some b' → w.heap.size ≤ b' := fun b' h => by cases h
    have he := Ext.fill (φ := φ) (w := w) (w' := w) .free hrn (Nat.le_refl _) (fun _ _ => rfl) hp
    have hinv := hi.fill (w' := w) .free .tail hrn (Nat.le_refl _) (fun _ _ => rfl) hp trivial
    have hat : (φ.set rn .free)[rn]? = some .free := List.getElem?_set_self (get_lt hrn)
    have hz' : (dx matches TypeDesc.int _) = false := by cases dx <;> first | rfl | exact absurd rfl (hxi _)
    have hfw := hf w rfl
    simp only [List.length_nil] at hfw
    have hlen : ∀ l : List (List D), (l ++ []).length = l.length := fun l => by simp
    refine ⟨.slice a es.length es.length, w, ?_, _, he, hinv, ?_⟩
    · simp only [Builtin.append_, List.getElem?_toArray, List.getElem?_cons_zero, List.getElem?_cons_succ, Sem.run_bind, run_underlying hu, Result.andThen_ok, sz_run hk, run_underlying hx, Sem.run_pure]
      cases a with
      | none => simp only [hz', hl, Bool.false_eq_true, if_false, Sem.run_bind, Result.andThen_ok, Sem.run_ite, hfw, List.length_nil, Nat.add_zero, Nat.le_refl, if_true, Sem.run_pure, Bool.not_false]
      | some ad => simp only [hz', hl, Bool.false_eq_true, if_false, Sem.run_bind, Result.andThen_ok, Sem.run_ite, hfw, List.length_nil, Nat.add_zero, Nat.le_refl, if_true, Sem.run_pure, Bool.not_false, storeCells]
    · rw [List.append_nil]
      exact .ownEx ⟨_, hat, by simp⟩ (.inl hat) (hd.ext he) rfl
  · have hpos : 0 < xs.length := List.length_pos_iff.2 hx0
    exact grow_gd hi hrn hu hk hb hz h0 hzs hd rfl hsrc hrx (by omega) hbd hbd2
theorem fit_gd {h : List Ho} (hi : Inv F φ w h) {rn : Nat} (hrn : φ[rn]? = some .yet) {st xt ty e : TypeId} {k : Nat} (hu : P.underlying st = some (.slice e)) (hk : szT P e = some k) (h0 : 0 < k)
    {g n cap t : Nat} {es xs : List (List D)} (hd : DenD F φ w (.slice (some ⟨g, 0, none⟩) n cap) (.sl k es)) (hn : es.length = n) {x : V} {rx : Value} (hsrc : srcOf P k xt x = some xs) (hrx : Den F φ w rx x)
    (ht : φ[t]? = some (.tail g (n * k))) {cur : Array Value} {T : TypeId} (hg : w.heap[g]? = some (.cells cur T (0, 0))) (hcs : cur.size = cap * k) (hroom : n + xs.length ≤ cap) :
    ∃ u w', (Builtin.append_ #[st, xt] ty #[.slice (some ⟨g, 0, none⟩) n cap, rx]).run P w = .ok u w' ∧ ∃ φ', Ext φ w φ' w' ∧ Inv F φ' w' ((h.set t .dead).set rn .tail) ∧ Den F φ' w' u (.own k (es ++ xs) rn) := by
  obtain ⟨⟨dx, hx, hxi⟩, hl, news, hnb, hf⟩ := srcOf_run h0 hsrc hrx
  obtain ⟨olds, hob, hoc⟩ := hd.bear h0 hn
  have hns := hnb.1
  have hos := hob.1
  have hle : (n + xs.length) * k ≤ cap * k := Nat.mul_le_mul_right k hroom
  rw [Nat.add_mul] at hle
  have hrun := app_fit (ty := ty) hu hx hxi hk hl hf hg (n := n) (cap := cap) (by omega) hnb.2.2.1 hroom
  have hnl : news.toList.length = xs.length * k := by simpa using hns
  generalize hW : w.setRow g (cur.toList.take (n * k) ++ news.toList ++ cur.toList.drop (n * k + news.toList.length)).toArray = w' at hrun
  have hsize : w'.heap.size = w.heap.size := by rw [← hW]; exact size_setRow w g _
  have hio : Still w w' := by rw [← hW]; exact ⟨rfl, rfl, rfl⟩
  have hoth : ∀ b, b ≠ g → w'.heap[b]? = w.heap[b]? := fun b hb => by rw [← hW]; exact setRow_other w g b _ hb
  have hblk : w'.heap[g]? = some (.cells (cur.toList.take (n * k) ++ news.toList ++ cur.toList.drop (n * k + news.toList.length)).toArray T (0, 0)) := by rw [← hW]; exact setRow_heap w g cur _ T _ hg
  generalize hN : (cur.toList.take (n * k) ++ news.toList ++ cur.toList.drop (n * k + news.toList.length)).toArray = new at hblk
  have hnsz : new.size = cur.size := by rw [← hN]; simp only [List.size_toArray]; rw [splice_len _ _ _ (by rw [hnl]; simp; omega)]; simp
  have hget : ∀ j, new[j]? = if j < n * k then cur[j]? else if j < n * k + xs.length * k then news[j - n * k]? else cur[j]? := fun j => by
    rw [← hN, List.getElem?_toArray, splice_get _ _ _ (by rw [hnl]; simp; omega), hnl]; simp
  have hap : ∀ (j : Nat) (q : Pl), φ[j]? = some q → q.blk = some g → j = t := fun j q hq hqb => hi.apart j t q _ g hq ht hqb rfl
  have hc : ∀ c T' fr, w.heap[g]? = some (.cells c T' fr) → ∃ c', w'.heap[g]? = some (.cells c' T' fr) ∧ c'.size = c.size ∧ ∀ o : Nat, o < n * k → c'[o]? = c[o]? := fun c T' fr h => by
    rw [hg] at h; cases h
    exact ⟨new, hblk, hnsz, fun o ho => by rw [hget, if_pos ho]⟩
  have he := Ext.tailOn ht hrn (e' := (n + xs.length) * k) (by rw [Nat.add_mul]; omega) hap hsize hoth hc
  have hinv := hi.tailOn ht hrn (e' := (n + xs.length) * k) (by rw [Nat.add_mul]; omega) hsize hoth hc fun c T' fr h => by
    rw [hblk] at h; cases h; rw [hnsz, hcs, Nat.add_mul]; exact hle
  refine ⟨_, _, hrun, _, he, hinv, ?_⟩
  have hbear : Bear F φ w k (olds ++ news) (es ++ xs) := hob.append hnb
  have hbs : (olds ++ news).size = (n + xs.length) * k := by rw [hbear.1]; simp [hn]
  have hlen : (es ++ xs).length = n + xs.length := by simp [hn]
  have htl := get_lt ht
  have hpr : ∀ o, o < (olds ++ news).size → prot F ((φ.set t .dead).set rn (.tail g ((n + xs.length) * k))) w' g o := fun o ho => by
    refine ⟨heap_lt hblk, fun i hi' => ?_, fun i e' hi' => ?_, hi.frO t _ g o ht rfl⟩
    · rcases get_set hi' with ⟨_, h, _⟩ | ⟨_, h⟩
      · cases h
      · rcases get_set h with ⟨_, h, _⟩ | ⟨hne, h⟩
        · cases h
        · exact hne (hap i _ h rfl)
    · rcases get_set hi' with ⟨_, h, _⟩ | ⟨_, h⟩
      · cases h; omega
      · rcases get_set h with ⟨_, h, _⟩ | ⟨hne, h⟩
        · cases h
        · exact absurd (hap i _ h rfl) hne
  have holdc : ∀ j, j < n * k → cur[j]? = olds[j]? := fun j hj => by
    obtain ⟨v, hv⟩ := ofLt (xs := olds) (i := j) (by rw [hos, hn]; exact hj)
    have := hoc j v (by simpa using hv)
    rw [add_addr] at this
    obtain ⟨c, T', fr, h1, h2⟩ := (cell_of w g _ v).1 this
    rw [hg] at h1; cases h1
    simp only [Nat.zero_add] at h2
    rw [h2, hv]
  have hcapm : cap ≤ 9223372036854775807 := by
    rcases hd.slInv with ⟨a0, e1, _⟩ | ⟨cap', _, _, _, e1, hcap', _⟩
    · cases e1; exact Nat.zero_le _
    · cases e1; exact hcap'.2
  have hden := (hbear.ext he).den hblk (fun i hlt => by
    rw [hget]
    by_cases h1 : i < n * k
    · rw [if_pos h1, Array.getElem?_append_left (by rw [hos, hn]; exact h1), holdc i h1]
    · rw [if_neg h1, if_pos (by rw [hbs, Nat.add_mul] at hlt; exact hlt), Array.getElem?_append_right (by rw [hos, hn]; omega), hos, hn]) hpr cap ⟨by omega, hcapm⟩
  rw [hlen] at hden
  have hlast : ((φ.set t .dead).set rn (Pl.tail g ((n + xs.length) * k)))[rn]? = some (.tail g ((n + xs.length) * k)) := List.getElem?_set_self (by simpa using get_lt hrn)
  refine .own ⟨_, hlast, by simp⟩ hden hlen (fun b' e' hb' => ?_) (fun hb' => ?_) (fun b' hb' => ?_)
  · rw [hlast] at hb'; cases hb'
    exact ⟨rfl, rfl, new, T, hblk, by rw [hnsz, hcs]⟩
  · rw [hlast] at hb'; cases hb'
  · rw [hlast] at hb'; cases hb'
theorem appendV_gd {h h' : List Ho} (hi : Inv F φ w h) {rn : Nat} (hrn : φ[rn]? = some .yet) {st xt ty : TypeId} {s x v : V} {r rx : Value} (ha : appendV P h rn st xt s x = some (v, h')) (hr : Den F φ w r s) (hrx : Den F φ w rx x) :
    ∃ u w', (Builtin.append_ #[st, xt] ty #[r, rx]).run P w = .ok u w' ∧ ∃ φ', Ext φ w φ' w' ∧ Inv F φ' w' h' ∧ Den F φ' w' u v := by
  unfold appendV at ha
  split at ha
  · rename_i e hu
    split at ha
    · rename_i k b z hk hb hz
      split at ha
      · rename_i hcond
        obtain ⟨hzs, h0⟩ := hcond
        split at ha
        · rename_i xs hsrc
          split at ha
          · rename_i k' es t
            split at ha
            · rename_i hht
              split at ha
              · rename_i hc
                obtain ⟨rfl, hbd, hbd2⟩ := hc
                cases ha
                have hd : DenD F φ w r (.sl k' es) := esOf_den (k := k') (v := .own k' es t) (if_pos rfl) hr
                have hkill := hi.kill t
                have hext := Ext.kill φ w t
                have htl : t < φ.length := by rw [hi.len]; exact get_lt hht
                obtain ⟨p, hp⟩ := ofLtL htl
                have hpok := hi.ok t p _ hp hht
                have hne : t ≠ rn := fun e => by
                  subst e
                  have := hi.ok t _ _ hrn hht
                  exact this
                have hrn' : (φ.set t .dead)[rn]? = some .yet := by rw [List.getElem?_set_ne hne]; exact hrn
                have trans : ∀ {φ' : List Pl} {w' : World}, Ext (φ.set t .dead) w φ' w' → Ext φ w φ' w' := fun he => hext.trans hi he
                have viaExact : (∃ a : Option Addr, r = .slice a es.length es.length) → ∃ u w', (Builtin.append_ #[st, xt] ty #[r, rx]).run P w = .ok u w' ∧ ∃ φ', Ext φ w φ' w' ∧ Inv F φ' w' ((h.set t .dead).set rn .tail) ∧ Den F φ' w' u (.own k' (es ++ xs) rn) := fun hrr => by
                  obtain ⟨u, w', h1, φ', h2, h3, h4⟩ := exact_gd (ty := ty) hkill hrn' hu hk hb hz h0 hzs (hd.ext hext) hrr hsrc (hrx.ext hext) hbd hbd2
                  exact ⟨u, w', h1, φ', trans h2, h3, h4⟩
                cases hr with
                | ownEx _ _ _ hn => subst hn; exact viaExact ⟨_, rfl⟩
                | @own k2 t2 n cap g es2 ht hd2 hn hpl hf hno =>
                  cases p <;> simp only [ObOk] at hpok
                  · rename_i g' e'
                    obtain ⟨rfl, rfl, c, T, hc, hcs⟩ := hpl _ _ hp
                    by_cases hroom : n + xs.length ≤ cap
                    · exact fit_gd hi hrn hu hk h0 hd hn hsrc hrx hp hc hcs hroom
                    · obtain ⟨u, w', h1, φ', h2, h3, h4⟩ := grow_gd (ty := ty) hkill hrn' hu hk hb hz h0 hzs (hd.ext hext) hn hsrc (hrx.ext hext) (by omega) hbd hbd2
                      exact ⟨u, w', h1, φ', trans h2, h3, h4⟩
                  · have := hf hp
                    subst this
                    subst hn
                    exact viaExact ⟨_, rfl⟩
              · cases ha
            · cases ha
          · rename_i k' es
            split at ha
            · rename_i hc
              obtain ⟨rfl, hbd, hbd2⟩ := hc
              cases ha
              have hd : DenD F φ w r (.sl k' es) := esOf_den (k := k') (v := .full k' es) (if_pos rfl) hr
              cases hr with
              | full _ hn => subst hn; exact exact_gd hi hrn hu hk hb hz h0 hzs hd ⟨_, rfl⟩ hsrc hrx hbd hbd2
            · cases ha
          · split at ha
            · rename_i hc
              obtain ⟨hbd, hbd2⟩ := hc
              cases ha
              obtain ⟨rfl, _⟩ := hr.sc
              exact exact_gd (es := []) hi hrn hu hk hb hz h0 hzs .nil ⟨none, rfl⟩ hsrc hrx (by simpa using hbd) (by simpa using hbd2)
            · cases ha
          · cases ha
        · cases ha
      · cases ha
    · cases ha
  · cases ha
theorem unbs_bs : ∀ {es : List (List D)} {l : List UInt8}, unbs es = some l → es = bs l
  | [], l, h => by simp only [unbs] at h; cases h; rfl
  | e :: es, l, h => by
    unfold unbs at h
    split at h
    · rename_i h0; cases h0
    · rename_i n es' h0
      cases h0
      split at h
      · rename_i hn
        obtain ⟨l', hl', rfl⟩ := Option.map_eq_some_iff.1 h
        rw [unbs_bs hl']
        simp only [bs, List.map_cons]
        congr 4
        have : n.toNat < 256 := by omega
        simp [UInt8.toNat_ofNat, Nat.mod_eq_of_lt this]; omega
      · cases h
    · cases h
theorem bs_unbs (l : List UInt8) : unbs (bs l) = some l := by
  induction l with
  | nil => rfl
  | cons b l ih =>
    have h : (0 : Int) ≤ (b.toNat : Int) ∧ (b.toNat : Int) < 256 := ⟨by omega, by have := b.toNat_lt; omega⟩
    show unbs ([.sc (.int .u8 b.toNat)] :: bs l) = _
    simp only [unbs, if_pos h, ih, Option.map_some]
    simp
theorem convV_gd {h : List Ho} (hi : Inv F φ w h) {src dst : TypeId} {x v : V} {r : Value} (hc : convV P src dst x = some v) (hr : Den F φ w r x) :
    ∃ u w', (convert src dst r).run P w = .ok u w' ∧ ∃ φ', Ext φ w φ' w' ∧ Inv F φ' w' h ∧ Den F φ' w' u v := by
  unfold convV at hc
  split at hc
  · obtain ⟨rfl, _⟩ := hr.sc
    split at hc
    · rename_i d k hs hd
      cases hc
      exact ⟨_, w, by simp [convert, run_underlying hs, run_underlying hd, Conv.intToInt], φ, .refl φ w, hi, den_sc rfl⟩
    · rename_i d hs hd
      cases hc
      exact ⟨_, w, by simp [convert, run_underlying hs, run_underlying hd, Conv.intToString], φ, .refl φ w, hi, den_sc rfl⟩
    · cases hc
  · rename_i s
    obtain ⟨rfl, _⟩ := hr.sc
    split at hc
    · rename_i hs hd
      cases hc
      exact ⟨.string s, w, by simp [convert, run_underlying hs, run_underlying hd], φ, .refl φ w, hi, den_sc rfl⟩
    · rename_i e hs hd
      split at hc
      · rename_i he
        split at hc
        · rename_i hsz
          cases hc
          have hrun := run_bytes_of_string (P := P) w src dst e s hs hd he
          have hge := grownCap_ge w s.size 0 e
          have hGm : grownCap w s.size 0 e ≤ 9223372036854775807 := grownCap_le_maxLen w _ 0 e (by unfold maxLen; unfold appBound at hsz; omega)
          generalize grownCap w s.size 0 e = G at hrun hge hGm
          generalize hO : Obj.cells (bytesRow s G) e ((bytesRow s G).size, (bytesRow s G).size + 1) = O at hrun
          obtain ⟨a1, a2⟩ := drew_more (w := w) O
          have hext := Ext.more (φ := φ) a1 a2
          refine ⟨_, _, hrun, φ, hext, hi.more a1 a2, ?_⟩
          have hnew : (w.drew.alloc O).heap[w.heap.size]? = some O := heap_alloc_new w.drew _
          rw [← hO] at hnew ⊢
          have hl : s.toList.length = s.size := by rw [ByteArray.toList_eq]; simp
          have hpr : ∀ o, o < ((s.toList.map fun b => Value.int .u8 b.toNat).toArray).size → prot F φ (w.drew.alloc (Obj.cells (bytesRow s G) e ((bytesRow s G).size, (bytesRow s G).size + 1))) w.heap.size o := fun o _ => by
            refine ⟨heap_lt hnew, fun i hi' => ?_, fun i e' hi' => ?_, fun hF => absurd (hi.frB _ _ hF) (by omega)⟩
            · exact absurd (hi.lt hi' rfl) (by omega)
            · exact absurd (hi.lt hi' rfl) (by omega)
          have := (bear_bytes (φ := φ) (w := w.drew.alloc (Obj.cells (bytesRow s G) e ((bytesRow s G).size, (bytesRow s G).size + 1))) s.toList).den hnew (fun i hlt => by
            have hlt' : i < s.size := by simpa [hl] using hlt
            unfold bytesRow
            rw [Array.getElem?_append_left (by simpa using hlt')]
            simp [ByteArray.toList_eq]) hpr G ⟨by rw [bs_len, hl]; exact hge, hGm⟩
          rw [bs_len, hl] at this
          exact .d this
        · cases hc
      · cases hc
    · cases hc
  · split at hc
    · rename_i e hs hd
      split at hc
      · rename_i es he hes
        obtain ⟨l, hl, rfl⟩ := Option.map_eq_some_iff.1 hc
        have := unbs_bs hl
        subst this
        have hd' := esOf_den hes hr
        refine ⟨.string ⟨l.toArray⟩, w, ?_, φ, .refl φ w, hi, den_sc rfl⟩
        rcases hd'.slInv with ⟨a0, rfl, e0⟩ | ⟨cap, b, off, c, rfl, hcap, hk, hce, hde⟩
        · have : l = [] := by
            cases l with
            | nil => rfl
            | cons b l => simp [bs] at e0
          subst this
          cases a0 <;> simp [convert, run_underlying hs, run_underlying hd, run_underlying he, Conv.bytesToString, loadCells, loadCellsFrom] <;> rfl
        · rw [bs_len]
          refine run_convert_bytes_back w src dst e _ cap l hs he hd fun j hj => ?_
          rw [add_addr]
          have h1 := (hce j 0 (by rw [bs_len]; exact hj) (by omega)).2
          have h2 := hde j _ 0 _ (by rw [bs_get, List.getElem?_eq_getElem hj]; rfl) rfl
          have h3 : c j 0 = .int .u8 (l[j].toNat : Int) := (Den.d h2).sc.1
          rw [h3] at h1
          simpa using h1
      · cases hc
    · cases hc
end
end
section
open Go Go.RowKit
set_option linter.unusedVariables false
set_option linter.unusedSimpArgs false
variable {F : Fr}
theorem flat_get {α : Type} {k : Nat} : ∀ {es : List (List α)}, (∀ (i : Nat) (e : List α), es[i]? = some e → e.length = k) → ∀ (i j : Nat), j < k → es.flatten[i * k + j]? = (es[i]?).bind fun e => e[j]?
  | [], _, i, j, _ => by simp
  | e :: es, h, 0, j, hj => by
    have he := h 0 e rfl
    simp only [List.flatten_cons, Nat.zero_mul, Nat.zero_add, List.getElem?_cons_zero, Option.bind_some]
    rw [List.getElem?_append_left (by rw [he]; exact hj)]
  | e :: es, h, i + 1, j, hj => by
    have he := h 0 e rfl
    have ih := flat_get (es := es) (fun i e he => h (i + 1) e he) i j hj
    simp only [List.flatten_cons, List.getElem?_cons_succ]
    rw [List.getElem?_append_right (by rw [he, Nat.add_mul]; omega), he]
    rw [show (i + 1) * k + j - k = i * k + j by rw [Nat.add_mul]; omega]
    exact ih
theorem flat_len {α : Type} {k : Nat} : ∀ {es : List (List α)}, (∀ (i : Nat) (e : List α), es[i]? = some e → e.length = k) → es.flatten.length = es.length * k
  | [], _ => by simp
  | e :: es, h => by
    have ih := flat_len (es := es) fun i e he => h (i + 1) e he
    have he := h 0 e rfl
    simp only [List.flatten_cons, List.length_append, ih, he, List.length_cons, Nat.add_mul]; omega
section
variable {P : Program} {F : Fr} {φ : List Pl} {w : World}
def Cells (F : Fr) (φ : List Pl) (w : World) (l : List Value) (xs : List V) : Prop := DenL F φ w l xs ∧ ∀ x ∈ l, x.oneCell' = true
theorem Cells.ext {φ' : List Pl} {w' : World} (he : Ext φ w φ' w') {l : List Value} {xs : List V} (h : Cells F φ w l xs) : Cells F φ' w' l xs := ⟨h.1.ext he, h.2⟩
theorem Cells.append {l m : List Value} {xs ys : List V} (h : Cells F φ w l xs) (h' : Cells F φ w m ys) : Cells F φ w (l ++ m) (xs ++ ys) :=
  ⟨h.1.append h'.1, fun x hx => by exact (List.mem_append.1 hx).elim (fun h1 => h.2 x h1) fun h1 => h'.2 x h1⟩
theorem DenL.take {rs : List Value} {vs : List V} (n : Nat) (h : DenL F φ w rs vs) : DenL F φ w (rs.take n) (vs.take n) :=
  .of_get (by simp [h.length]) fun i r v hr hv => by
    rw [List.getElem?_take] at hr hv
    split at hr
    · rename_i hlt; rw [if_pos hlt] at hv; exact h.get i r v hr hv
    · cases hr
theorem DenL.drop {rs : List Value} {vs : List V} (n : Nat) (h : DenL F φ w rs vs) : DenL F φ w (rs.drop n) (vs.drop n) :=
  .of_get (by simp [h.length]) fun i r v hr hv => by
    rw [List.getElem?_drop] at hr hv
    exact h.get _ r v hr hv
theorem Cells.take {l : List Value} {xs : List V} (n : Nat) (h : Cells F φ w l xs) : Cells F φ w (l.take n) (xs.take n) := ⟨h.1.take n, fun x hx => h.2 x (List.mem_of_mem_take hx)⟩
theorem Cells.drop {l : List Value} {xs : List V} (n : Nat) (h : Cells F φ w l xs) : Cells F φ w (l.drop n) (xs.drop n) := ⟨h.1.drop n, fun x hx => h.2 x (List.mem_of_mem_drop hx)⟩
theorem Cells.nil : Cells F φ w [] [] := ⟨.nil, fun x hx => by cases hx⟩
theorem Bear.cells {k : Nat} {cells : Array Value} {es : List (List D)} (h0 : 0 < k) (h : Bear F φ w k cells es) : Cells F φ w cells.toList (flatD es) := by
  obtain ⟨h1, h2, h3, h4⟩ := h
  refine ⟨.of_get (by unfold flatD; rw [List.length_map, flat_len h2]; simpa using h1) fun q r v hr hv => ?_, h3⟩
  unfold flatD at hv
  rw [List.getElem?_map] at hv
  obtain ⟨x, hx, rfl⟩ := Option.map_eq_some_iff.1 hv
  have hq : q / k * k + q % k = q := by rw [Nat.mul_comm]; exact Nat.div_add_mod q k
  have hm := Nat.mod_lt q h0
  rw [← hq, flat_get h2 _ _ hm] at hx
  obtain ⟨e, he, hx⟩ := Option.bind_eq_some_iff.1 hx
  obtain ⟨u, hu, hd⟩ := h4 _ e _ x he hx
  rw [hq] at hu
  rw [Array.getElem?_toList, hu] at hr
  cases hr
  exact .d hd
theorem obj_cells {h : List Ho} (hi : Inv F φ w h) {o : Nat} {cs : List V} (ho : h[o]? = some (.cells cs)) :
    (cs = [] ∧ φ[o]? = some .free) ∨ ∃ (b z : Nat) (arr : Array Value) (T : TypeId), φ[o]? = some (.obj b z) ∧ w.heap[b]? = some (.cells arr T (0, 0)) ∧ arr.size = z ∧ cs.length ≤ z ∧ Cells F φ w (arr.toList.take cs.length) cs := by
  obtain ⟨p, hp⟩ := ofLtL (xs := φ) (i := o) (by rw [hi.len]; exact get_lt ho)
  have hok := hi.ok o p _ hp ho
  cases p <;> simp only [ObOk] at hok
  · rename_i b z
    obtain ⟨arr, ⟨T, hrow⟩, hz, hlen, hd⟩ := hok
    refine .inr ⟨b, z, arr, T, hp, hrow, hz, by omega, .of_get (by simp; omega) fun i r v hr hv => ?_, fun x hx => ?_⟩
    · obtain ⟨u, h1, h2, h3⟩ := hd i v hv
      rw [List.getElem?_take, if_pos (get_lt hv), Array.getElem?_toList, h1] at hr
      cases hr; exact h3
    · obtain ⟨i, hi'⟩ := List.mem_iff_getElem?.1 hx
      rw [List.getElem?_take] at hi'
      split at hi'
      · rename_i hlt
        obtain ⟨v, hv⟩ := ofLtL hlt
        obtain ⟨u, h1, h2, h3⟩ := hd i v hv
        rw [Array.getElem?_toList, h1] at hi'
        cases hi'; exact h2
      · cases hi'
  · exact .inl ⟨hok, hp⟩
theorem srcH_run {h : List Ho} (hi : Inv F φ w h) {k : Nat} (h0 : 0 < k) {xt : TypeId} {x : V} {m : Nat} {xs : List V} (hs : srcH P h k xt x = some (m, xs)) {r : Value} (hr : Den F φ w r x) :
    (∃ d, P.underlying xt = some d ∧ ∀ q, d ≠ .int q) ∧ (∀ w', (Builtin.lenOf r).run P w' = .ok m w') ∧ xs.length = m * k ∧
      ∃ news : List Value, Cells F φ w news xs ∧ ∀ n, n ≤ m → ∀ w' : World, w'.heap = w.heap → (Builtin.firstCells k n r).run P w' = .ok (news.take (n * k)).toArray w' := by
  unfold srcH at hs
  split at hs
  · rename_i e hu
    refine ⟨⟨_, hu, by simp⟩, ?_⟩
    split at hs
    · rename_i g k' o off n
      split at hs
      · rename_i cs hcs
        split at hs
        · rename_i hc
          cases hs
          obtain ⟨rfl, hle⟩ := hc
          obtain ⟨ho, hcase⟩ := hsInv hr
          have hxl : ((cs.drop off).take (m * k')).length = m * k' := by simp; omega
          rcases hcase with ⟨b, cap, rfl, hb, hcap, _⟩ | ⟨rfl, a, cap, rfl, ha, _⟩
          · refine ⟨fun w' => by simp [Builtin.lenOf], hxl, ?_⟩
            rcases obj_cells hi hcs with ⟨rfl, hf⟩ | ⟨b', z, arr, T, hp, hrow, hz, hlen, hce⟩
            · have hm0 : m = 0 := by
                have : m * k' = 0 := by simp at hle; omega
                rcases Nat.mul_eq_zero.1 this with h | h
                · exact h
                · omega
              subst hm0
              refine ⟨[], by simpa using Cells.nil, fun n hn w' hw => ?_⟩
              obtain rfl : n = 0 := by omega
              simp [Builtin.firstCells, loadCells, loadCellsFrom]
            · have := (hb b' hp).1
              subst this
              refine ⟨((arr.toList.take cs.length).drop off).take (m * k'), (hce.drop off).take (m * k'), fun n hn w' hw => ?_⟩
              have hnk : n * k' ≤ m * k' := Nat.mul_le_mul_right k' hn
              have := run_firstCells_some (P := P) w' k' n ⟨b', off, none⟩ m cap ((((arr.toList.take cs.length).drop off).take (m * k')).take (n * k')) (by simp; omega) (fun j v hj => by
                rw [List.getElem?_take] at hj
                split at hj
                · rw [List.getElem?_take] at hj
                  split at hj
                  · rw [List.getElem?_drop, List.getElem?_take] at hj
                    split at hj
                    · rw [add_addr]
                      refine (cell_of w' _ _ _).2 ⟨arr, T, _, by rw [hw]; exact hrow, by simpa using hj⟩
                    · cases hj
                  · cases hj
                · cases hj)
              exact this
          · refine ⟨fun w' => by simp [Builtin.lenOf], hxl, [], ?_, fun n hn w' hw => ?_⟩
            · simp; exact Cells.nil
            · obtain rfl : n = 0 := by omega
              cases a with
              | none => simp [Builtin.firstCells]
              | some a => simp [Builtin.firstCells, loadCells, loadCellsFrom]
        · cases hs
      · cases hs
    · rename_i x' hnh
      obtain ⟨es, hes, heq⟩ := Option.map_eq_some_iff.1 hs
      cases heq
      have hd := esOf_den hes hr
      have hkk : ∀ (i : Nat) (e : List D), es[i]? = some e → e.length = k := by
        rcases hd.slInv with ⟨a0, _, rfl⟩ | ⟨_, _, _, _, _, _, hk, _⟩
        · intro i e he; simp at he
        · exact hk
      rcases hd.slInv with ⟨a0, rfl, rfl⟩ | ⟨cap, b, off, c, rfl, _⟩
      · refine ⟨fun w' => by simp [Builtin.lenOf], by simp [flatD], [], by simpa [flatD] using Cells.nil, fun n hn w' hw => ?_⟩
        obtain rfl : n = 0 := by simpa using hn
        cases a0 <;> simp [Builtin.firstCells, loadCells, loadCellsFrom]
      · obtain ⟨cells, hb, hc⟩ := hd.bear h0 rfl
        refine ⟨fun w' => by simp [Builtin.lenOf], by unfold flatD; rw [List.length_map, flat_len hkk], cells.toList, hb.cells h0, fun n hn w' hw => ?_⟩
        have hbs := hb.1
        have hnk : n * k ≤ es.length * k := Nat.mul_le_mul_right k hn
        exact run_firstCells_some (P := P) w' k n ⟨b, off, none⟩ es.length cap (cells.toList.take (n * k)) (by simp; omega) (fun j v hj => by
          rw [List.getElem?_take] at hj
          split at hj
          · have := hc j v hj
            unfold World.cell? at this ⊢
            rw [hw]; exact this
          · cases hj)
  · cases hs
theorem vec_new {h : List Ho} (hi : Inv F φ w h) {rn : Nat} (hrn : φ[rn]? = some .yet) {w' : World} {arr : Array Value} {T : TypeId} {k n cap : Nat} {xs : List V} (hs : w.heap.size ≤ w'.heap.size) (hk : ∀ b, b < w.heap.size → w'.heap[b]? = w.heap[b]?) (hio : Still w w')
    (hnew : w'.heap[w.heap.size]? = some (.cells arr T (0, 0))) (hsz : arr.size = cap * k) (hn : n ≤ cap ∧ cap ≤ 9223372036854775807) (hl : xs.length ≤ arr.size) (hx : Cells F φ w (arr.toList.take xs.length) xs) :
    ∃ φ', Ext φ w φ' w' ∧ Inv F φ' w' (h.set rn (.cells xs)) ∧ Den F φ' w' (.slice (some ⟨w.heap.size, 0, none⟩) n cap) (.hs true k rn 0 n) := by
  have hp : ∀ b, (Pl.obj w.heap.size (cap * k)).blk = some b → w.heap.size ≤ b := fun b hb => by cases hb; exact Nat.le_refl _
  have he := Ext.fill (φ := φ) (.obj w.heap.size (cap * k)) hrn hs hk hp hio
  have hat : (φ.set rn (.obj w.heap.size (cap * k)))[rn]? = some (.obj w.heap.size (cap * k)) := List.getElem?_set_self (get_lt hrn)
  refine ⟨_, he, hi.fill _ _ hrn hs hk hp ⟨arr, ⟨T, hnew⟩, hsz, hl, fun j v hv => ?_⟩ hio, .hs ⟨_, hat, by simp⟩ (fun b' hb' => ?_) hn (fun _ hf => by rw [hat] at hf; cases hf)⟩
  · obtain ⟨u, hu⟩ := ofLtL (xs := arr.toList.take xs.length) (i := j) (by rw [hx.1.length]; exact get_lt hv)
    refine ⟨u, ?_, hx.2 u (List.mem_of_getElem? hu), (hx.1.get j u v hu hv).ext he⟩
    rw [List.getElem?_take, if_pos (get_lt hv)] at hu
    simpa using hu
  · rw [hat] at hb'; cases hb'
    exact ⟨rfl, fun _ => by omega⟩
theorem den_nilH {h : List Ho} (hi : Inv F φ w h) {rn : Nat} (hrn : φ[rn]? = some .yet) {k : Nat} (a : Option Addr) :
    ∃ φ', Ext φ w φ' w ∧ Inv F φ' w (h.set rn (.cells [])) ∧ Den F φ' w (.slice a 0 0) (.hs true k rn 0 0) := by
  have hp : ∀ b', (Pl.free).blk = some b' → w.heap.size ≤ b' := fun b' h => by cases h
  have he := Ext.fill (φ := φ) (w := w) (w' := w) .free hrn (Nat.le_refl _) (fun _ _ => rfl) hp
  have hinv := hi.fill (w' := w) .free (.cells []) hrn (Nat.le_refl _) (fun _ _ => rfl) hp rfl
  have hat : (φ.set rn .free)[rn]? = some .free := List.getElem?_set_self (get_lt hrn)
  exact ⟨_, he, hinv, .hsN ⟨_, hat, by simp⟩ fun b' hb' => by rw [hat] at hb'; cases hb'⟩
theorem growH {h : List Ho} (hi : Inv F φ w h) {rn : Nat} (hrn : φ[rn]? = some .yet) {st xt ty e : TypeId} {k b : Nat} {z : Value} (hu : P.underlying st = some (.slice e)) (hk : szT P e = some k) (hb : byT P e = some b) (hz : zeroT P e = some z) (h0 : 0 < k) (hzs : z.cells.size = k)
    {base : Option Addr} {n cap m : Nat} {rx : Value} {cs xs : List V} {olds news : List Value} (hol : Cells F φ w olds cs) (hcl : cs.length = n * k) (hfo : ∀ w' : World, w'.heap = w.heap → (Builtin.firstCells k n (.slice base n cap)).run P w' = .ok olds.toArray w')
    (hx : ∃ d, P.underlying xt = some d ∧ ∀ q, d ≠ .int q) (hl : ∀ w', (Builtin.lenOf rx).run P w' = .ok m w') (hxl : xs.length = m * k) (hnl : Cells F φ w news xs) (hf : ∀ w' : World, w'.heap = w.heap → (Builtin.firstCells k m rx).run P w' = .ok news.toArray w')
    (hg : cap < n + m) (hbd : (n + m) * b ≤ appBound) (hbd2 : n + m ≤ appBound) :
    ∃ u w', (Builtin.append_ #[st, xt] ty #[.slice base n cap, rx]).run P w = .ok u w' ∧ ∃ φ', Ext φ w φ' w' ∧ Inv F φ' w' (h.set rn (.cells (cs ++ xs))) ∧ Den F φ' w' u (.hs true k rn 0 (n + m)) := by
  obtain ⟨dx, hx, hxi⟩ := hx
  simp only [appBound] at hbd hbd2
  have hrun := app_grow (ty := ty) hu hx hxi hk hb hz hl hf hfo hg (by omega) (by omega)
  have hge : n + m ≤ grownCap w (n + m) cap e := grownCap_ge w _ _ _
  have hGm : grownCap w (n + m) cap e ≤ 9223372036854775807 := grownCap_le_maxLen w _ cap e (by unfold maxLen; omega)
  generalize hG : grownCap w (n + m) cap e = G at hrun hge hGm
  have hol1 := hol.1.length
  have hnl1 := hnl.1.length
  obtain ⟨a1, a2⟩ := drew_more (w := w) (.cells (olds.toArray ++ news.toArray ++ Builtin.zeroCells z.cells (G - (n + m))) e)
  refine ⟨_, _, hrun, vec_new hi hrn a1 a2 ⟨rfl, rfl, rfl⟩ (heap_alloc_new w.drew _) ?_ ⟨hge, hGm⟩ ?_ ?_⟩
  · simp only [Array.size_append, List.size_toArray, size_zeroCells, hzs, hol1, hcl, hnl1, hxl, ← Nat.add_mul]
    congr 1; omega
  · simp only [Array.size_append, List.size_toArray, List.length_append]; omega
  · have e1 : (olds.toArray ++ news.toArray ++ Builtin.zeroCells z.cells (G - (n + m))).toList.take (cs ++ xs).length = olds ++ news := by
      simp only [Array.toList_append]
      rw [List.take_append_of_le_length (by simp; omega)]
      rw [List.take_of_length_le (by simp; omega)]
    rw [e1]
    exact hol.append hnl
theorem fitH {h : List Ho} (hi : Inv F φ w h) {rn : Nat} (hrn : φ[rn]? = some .yet) {st xt ty e : TypeId} {k : Nat} (hu : P.underlying st = some (.slice e)) (hk : szT P e = some k) (h0 : 0 < k)
    {g n cap z m o : Nat} {rx : Value} {cs xs : List V} {news : List Value} (hp : φ[o]? = some (.obj g z)) {cur : Array Value} {T : TypeId} (hg : w.heap[g]? = some (.cells cur T (0, 0))) (hz : cur.size = z) (hcz : cap * k ≤ z) (hcs : Cells F φ w (cur.toList.take cs.length) cs)
    (hle : n * k ≤ cs.length) (hclz : cs.length ≤ z) (hx : ∃ d, P.underlying xt = some d ∧ ∀ q, d ≠ .int q) (hl : ∀ w', (Builtin.lenOf rx).run P w' = .ok m w') (hxl : xs.length = m * k) (hnl : Cells F φ w news xs)
    (hf : ∀ w' : World, w'.heap = w.heap → (Builtin.firstCells k m rx).run P w' = .ok news.toArray w') (hroom : n + m ≤ cap) (hcm : cap ≤ 9223372036854775807) :
    ∃ u w', (Builtin.append_ #[st, xt] ty #[.slice (some ⟨g, 0, none⟩) n cap, rx]).run P w = .ok u w' ∧ ∃ φ', Ext φ w φ' w' ∧ Inv F φ' w' ((h.set o .dead).set rn (.cells (cs.take (n * k) ++ xs))) ∧ Den F φ' w' u (.hs true k rn 0 (n + m)) := by
  obtain ⟨dx, hx, hxi⟩ := hx
  have hnl1 := hnl.1.length
  have hlk : (n + m) * k ≤ cap * k := Nat.mul_le_mul_right k hroom
  rw [Nat.add_mul] at hlk
  have hrun := app_fit (ty := ty) hu hx hxi hk hl hf hg (n := n) (cap := cap) (by simp; omega) (by simpa using hnl.2) hroom
  simp only [List.toList_toArray] at hrun
  generalize hW : w.setRow g (cur.toList.take (n * k) ++ news ++ cur.toList.drop (n * k + news.length)).toArray = w' at hrun
  have hsize : w'.heap.size = w.heap.size := by rw [← hW]; exact size_setRow w g _
  have hio : Still w w' := by rw [← hW]; exact ⟨rfl, rfl, rfl⟩
  have hoth : ∀ b, b ≠ g → w'.heap[b]? = w.heap[b]? := fun b hb => by rw [← hW]; exact setRow_other w g b _ hb
  have hblk : w'.heap[g]? = some (.cells (cur.toList.take (n * k) ++ news ++ cur.toList.drop (n * k + news.length)).toArray T (0, 0)) := by rw [← hW]; exact setRow_heap w g cur _ T _ hg
  have hap : ∀ (j : Nat) (q : Pl), φ[j]? = some q → q.blk = some g → j = o := fun j q hq hqb => hi.apart j o q _ g hq hp hqb rfl
  have he := Ext.objOn hp hrn hap hsize hoth hio
  have htl : (cur.toList.take (n * k) ++ news ++ cur.toList.drop (n * k + news.length)).length = cur.size := by
    rw [splice_len _ _ _ (by simp; omega)]; simp
  have htk : (cs.take (n * k) ++ xs).length = n * k + m * k := by simp [hxl]; omega
  refine ⟨_, _, hrun, _, he, hi.objOn hp hrn hsize hoth ⟨_, ⟨T, hblk⟩, ?_, ?_, fun j v hv => ?_⟩ hio, ?_⟩
  · simp only [List.size_toArray, htl, hz]
  · simp only [List.size_toArray, htl, htk]; omega
  · have hall : Cells F φ w ((cur.toList.take cs.length).take (n * k) ++ news) (cs.take (n * k) ++ xs) := (hcs.take _).append hnl
    obtain ⟨u, hu'⟩ := ofLtL (xs := (cur.toList.take cs.length).take (n * k) ++ news) (i := j) (by rw [hall.1.length]; exact get_lt hv)
    refine ⟨u, ?_, hall.2 u (List.mem_of_getElem? hu'), (hall.1.get j u v hu' hv).ext he⟩
    have e1 : (cur.toList.take cs.length).take (n * k) = cur.toList.take (n * k) := by rw [List.take_take, Nat.min_eq_left hle]
    rw [e1] at hu'
    simp only [List.getElem?_toArray]
    rw [List.getElem?_append_left (get_lt hu')]; exact hu'
  · have hlast : ((φ.set o .dead).set rn (Pl.obj g z))[rn]? = some (.obj g z) := List.getElem?_set_self (by simpa using get_lt hrn)
    refine .hs ⟨_, hlast, by simp⟩ (fun b' hb' => ?_) ⟨hroom, hcm⟩ (fun _ hf => by rw [hlast] at hf; cases hf)
    rw [hlast] at hb'; cases hb'
    exact ⟨rfl, fun _ => by omega⟩
theorem appendH_gd {h h' : List Ho} (hi : Inv F φ w h) {rn : Nat} (hrn : φ[rn]? = some .yet) {st xt ty : TypeId} {s x v : V} {r rx : Value} (ha : appendH P h rn st xt s x = some (v, h')) (hr : Den F φ w r s) (hrx : Den F φ w rx x) :
    ∃ u w', (Builtin.append_ #[st, xt] ty #[r, rx]).run P w = .ok u w' ∧ ∃ φ', Ext φ w φ' w' ∧ Inv F φ' w' h' ∧ Den F φ' w' u v := by
  unfold appendH at ha
  split at ha
  case h_2 => cases ha
  rename_i e hu
  split at ha
  case h_2 => cases ha
  rename_i k b z hk hb hz
  split at ha
  case isFalse => cases ha
  rename_i hcond
  obtain ⟨hzs, h0⟩ := hcond
  split at ha
  case h_2 => cases ha
  rename_i m xs hsrc
  obtain ⟨hx, hl, hxl, news, hnc, hf⟩ := srcH_run hi h0 hsrc hrx
  have hnl1 := hnc.1.length
  have hf1 : ∀ w' : World, w'.heap = w.heap → (Builtin.firstCells k m rx).run P w' = .ok news.toArray w' := fun w' hw => by
    have := hf m (Nat.le_refl _) w' hw
    rwa [List.take_of_length_le (by omega)] at this
  have fromNil : ∀ a : Option Addr, m * b ≤ appBound ∧ m ≤ appBound → ∃ u w', (Builtin.append_ #[st, xt] ty #[.slice a 0 0, rx]).run P w = .ok u w' ∧ ∃ φ', Ext φ w φ' w' ∧ Inv F φ' w' (h.set rn (.cells xs)) ∧ Den F φ' w' u (.hs true k rn 0 m) := fun a hbd => by
    by_cases hm : m = 0
    · subst hm
      obtain ⟨dx, hx, hxi⟩ := hx
      have hx0 : xs = [] := List.eq_nil_of_length_eq_zero (by simpa using hxl)
      subst hx0
      have hn0 : news = [] := List.eq_nil_of_length_eq_zero (by simpa using hnl1)
      subst hn0
      have hz' : (dx matches TypeDesc.int _) = false := by cases dx <;> first | rfl | exact absurd rfl (hxi _)
      have hfw := hf1 w rfl
      refine ⟨.slice a 0 0, w, ?_, den_nilH hi hrn a⟩
      simp only [Builtin.append_, List.getElem?_toArray, List.getElem?_cons_zero, List.getElem?_cons_succ, Sem.run_bind, run_underlying hu, Result.andThen_ok, sz_run hk, run_underlying hx, Sem.run_pure]
      cases a with
      | none => simp only [hz', hl, Bool.false_eq_true, if_false, Sem.run_bind, Result.andThen_ok, Sem.run_ite, hfw, List.length_nil, Nat.add_zero, Nat.le_refl, if_true, Sem.run_pure, Bool.not_false]
      | some ad => simp only [hz', hl, Bool.false_eq_true, if_false, Sem.run_bind, Result.andThen_ok, Sem.run_ite, hfw, List.length_nil, Nat.add_zero, Nat.le_refl, if_true, Sem.run_pure, Bool.not_false, storeCells]
    · have := growH (ty := ty) hi hrn hu hk hb hz h0 hzs (base := a) (n := 0) (cap := 0) (cs := []) (olds := []) Cells.nil (by simp) (fun w' _ => by cases a <;> simp [Builtin.firstCells, loadCells, loadCellsFrom]) hx hl hxl hnc hf1 (by omega) (by simpa using hbd.1) (by simpa using hbd.2)
      simpa using this
  split at ha
  · rename_i k' o n
    split at ha
    case h_2 => cases ha
    rename_i cs hcs
    split at ha
    case isFalse => cases ha
    rename_i hc
    obtain ⟨rfl, hle, hbd, hbd2⟩ := hc
    cases ha
    have hkill := hi.kill o
    have hext := Ext.kill φ w o
    have hne : o ≠ rn := fun e => by
      subst e
      have := hi.ok o _ _ hrn hcs
      exact this
    have hrn' : (φ.set o .dead)[rn]? = some .yet := by rw [List.getElem?_set_ne hne]; exact hrn
    obtain ⟨ho, hcase⟩ := hsInv hr
    rcases obj_cells hi hcs with ⟨rfl, hfree⟩ | ⟨g, z2, cur, T, hp, hrow, hz2, hlen, hce⟩
    · have hn0 : n = 0 := by
        have : n * k' = 0 := by simp at hle; omega
        rcases Nat.mul_eq_zero.1 this with h | h
        · exact h
        · omega
      subst hn0
      have hgrow : ∀ (a : Option Addr) (cap : Nat), r = .slice a 0 cap → cap < 0 + m → ∃ u w', (Builtin.append_ #[st, xt] ty #[r, rx]).run P w = .ok u w' ∧ ∃ φ', Ext φ w φ' w' ∧ Inv F φ' w' ((h.set o .dead).set rn (.cells (([] : List V).take (0 * k') ++ xs))) ∧ Den F φ' w' u (.hs true k' rn 0 (0 + m)) := fun a cap e hlt => by
        subst e
        obtain ⟨u, w', h1, φ', h2, h3, h4⟩ := growH (ty := ty) hkill hrn' hu hk hb hz h0 hzs (base := a) (n := 0) (cap := cap) (cs := []) (olds := []) Cells.nil (by simp) (fun w' _ => by cases a <;> simp [Builtin.firstCells, loadCells, loadCellsFrom]) hx hl hxl (hnc.ext hext) hf1 hlt hbd hbd2
        exact ⟨u, w', h1, φ', hext.trans hi h2, by simpa using h3, h4⟩
      rcases hcase with ⟨b1, cap, rfl, hb1, hcap, _, hnf⟩ | ⟨_, a, cap, rfl, ha', _, hg', _⟩
      · exact absurd hfree (hnf rfl)
      · have hcap0 := (hg' rfl).1
        subst hcap0
        by_cases hm : m = 0
        · subst hm
          obtain ⟨dx, hx, hxi⟩ := hx
          have hx0 : xs = [] := List.eq_nil_of_length_eq_zero (by simpa using hxl)
          subst hx0
          have hn0 : news = [] := List.eq_nil_of_length_eq_zero (by simpa using hnl1)
          subst hn0
          have hz' : (dx matches TypeDesc.int _) = false := by cases dx <;> first | rfl | exact absurd rfl (hxi _)
          have hfw := hf1 w rfl
          obtain ⟨φ', h2, h3, h4⟩ := den_nilH (k := k') hkill hrn' a
          refine ⟨.slice a 0 0, w, ?_, φ', hext.trans hi h2, by simpa using h3, h4⟩
          simp only [Builtin.append_, List.getElem?_toArray, List.getElem?_cons_zero, List.getElem?_cons_succ, Sem.run_bind, run_underlying hu, Result.andThen_ok, sz_run hk, run_underlying hx, Sem.run_pure]
          cases a with
          | none => simp only [hz', hl, Bool.false_eq_true, if_false, Sem.run_bind, Result.andThen_ok, Sem.run_ite, hfw, List.length_nil, Nat.add_zero, Nat.le_refl, if_true, Sem.run_pure, Bool.not_false]
          | some ad => simp only [hz', hl, Bool.false_eq_true, if_false, Sem.run_bind, Result.andThen_ok, Sem.run_ite, hfw, List.length_nil, Nat.add_zero, Nat.le_refl, if_true, Sem.run_pure, Bool.not_false, storeCells]
        · exact hgrow a 0 rfl (by omega)
    · rcases hcase with ⟨b1, cap, rfl, hb1, hcap, hcm, _⟩ | ⟨_, a, cap, rfl, ha', _, hg', _⟩
      · obtain ⟨rfl, hcz⟩ := hb1 g hp
        have hcz := hcz rfl
        by_cases hroom : n + m ≤ cap
        · exact fitH hi hrn hu hk h0 hp hrow hz2 (by omega) hce hle hlen hx hl hxl hnc hf1 hroom hcm
        · have hol := (hce.take (n * k')).ext hext
          obtain ⟨u, w', h1, φ', h2, h3, h4⟩ := growH (ty := ty) hkill hrn' hu hk hb hz h0 hzs (base := some ⟨g, 0, none⟩) (n := n) (cap := cap) hol (by simp; omega) (fun w' hw => by
            refine run_firstCells_some (P := P) w' k' n ⟨g, 0, none⟩ n cap _ (by simp; omega) (fun j v hj => ?_)
            rw [List.getElem?_take] at hj
            split at hj
            · rw [List.getElem?_take] at hj
              split at hj
              · rw [add_addr]
                exact (cell_of w' _ _ _).2 ⟨cur, T, _, by rw [hw]; exact hrow, by simpa using hj⟩
              · cases hj
            · cases hj) hx hl hxl (hnc.ext hext) hf1 (by omega) hbd hbd2
          exact ⟨u, w', h1, φ', hext.trans hi h2, h3, h4⟩
      · exact absurd hp ((hg' rfl).2 g)
  · split at ha
    case isFalse => cases ha
    rename_i hc
    cases ha
    obtain ⟨rfl, _⟩ := hr.sc
    exact fromNil none hc
  · split at ha
    case isFalse => cases ha
    rename_i hc
    obtain ⟨rfl, hc⟩ := hc
    cases ha
    cases hr with
    | full hd hn =>
      simp at hn; subst hn
      exact fromNil _ hc
  · cases ha
end
end
section
open Go Go.RowKit Go.MapKept
set_option linter.unusedVariables false
set_option linter.unusedSimpArgs false
variable {F : Fr}
section
variable {P : Program} {F : Fr} {φ : List Pl} {w : World}
theorem splice_obj {h : List Ho} (hi : Inv F φ w h) {o b z off : Nat} {cs xs : List V} {arr : Array Value} {T : TypeId} {vals : List Value} (hcs : h[o]? = some (.cells cs)) (hp : φ[o]? = some (.obj b z)) (hrow : w.heap[b]? = some (.cells arr T (0, 0))) (hz : arr.size = z)
    (hc : Cells F φ w vals xs) (hle : off + xs.length ≤ cs.length) :
    ∃ w', (storeCells ⟨b, off, none⟩ vals).run P w = .ok () w' ∧ Ext φ w φ w' ∧ Inv F φ w' (h.set o (.cells (cs.take off ++ xs ++ cs.drop (off + xs.length)))) := by
  have hok := hi.ok o _ _ hp hcs
  obtain ⟨arr', ⟨T', hrow'⟩, hz', hlen, hd⟩ := hok
  rw [hrow] at hrow'
  cases hrow'
  have hn := hc.1.length
  have hrun := run_storeCells_at (P := P) b off T vals 0 arr w hrow (by omega) hc.2
  simp only [Nat.add_zero] at hrun
  have hsize := size_setRow w b (arr.toList.take off ++ vals ++ arr.toList.drop (off + vals.length)).toArray
  have hoth : ∀ k, k ≠ b → (w.setRow b (arr.toList.take off ++ vals ++ arr.toList.drop (off + vals.length)).toArray).heap[k]? = w.heap[k]? := fun k hk => setRow_other w b k _ hk
  have hap : ∀ (j : Nat) (q : Pl), φ[j]? = some q → q.blk = some b → j = o := fun j q hq hqb => hi.apart j o q _ b hq hp hqb rfl
  have hext := Ext.atObj hp hap hsize hoth
  refine ⟨_, hrun, hext, hi.atObj hp hsize hoth ⟨_, ⟨T, setRow_heap w b arr _ T _ hrow⟩, ?_, ?_, fun j x hx => ?_⟩⟩
  · rw [← hz]; simp only [List.size_toArray]
    rw [splice_len _ _ _ (by simp; omega)]; simp
  · rw [splice_len _ _ _ (by omega)]
    simp only [List.size_toArray]
    rw [splice_len _ _ _ (by simp; omega)]
    simpa using hlen
  · rw [splice_get _ _ _ (by omega)] at hx
    simp only [List.getElem?_toArray]
    rw [splice_get _ _ _ (by simp; omega)]
    by_cases g1 : j < off
    · rw [if_pos g1] at hx ⊢
      obtain ⟨u, a1, a2, a3⟩ := hd j x hx
      exact ⟨u, by simpa using a1, a2, a3.ext hext⟩
    · rw [if_neg g1] at hx ⊢
      by_cases g2 : j < off + xs.length
      · rw [if_pos g2] at hx
        rw [if_pos (by omega)]
        obtain ⟨u, hu⟩ := ofLtL (xs := vals) (i := j - off) (by omega)
        exact ⟨u, hu, hc.2 u (List.mem_of_getElem? hu), (hc.1.get _ u x hu hx).ext hext⟩
      · rw [if_neg g2] at hx
        rw [if_neg (by omega)]
        obtain ⟨u, a1, a2, a3⟩ := hd j x hx
        exact ⟨u, by simpa using a1, a2, a3.ext hext⟩
theorem set_same {h : List Ho} {o : Nat} {x : Ho} (hx : h[o]? = some x) : h.set o x = h := by
  apply List.ext_getElem?; intro i
  rw [List.getElem?_set]
  split
  · rename_i e; subst e; rw [hx]; split
    · rfl
    · rename_i hl; exact absurd (get_lt hx) hl
  · rfl
theorem copyV_gd {h h' : List Ho} (hi : Inv F φ w h) {dt xt ty : TypeId} {d x v : V} {r rx : Value} (ha : copyV P h dt xt d x = some (v, h')) (hr : Den F φ w r d) (hrx : Den F φ w rx x) :
    ∃ u w', (Builtin.copy_ #[dt, xt] ty #[r, rx]).run P w = .ok u w' ∧ ∃ φ', Ext φ w φ' w' ∧ Inv F φ' w' h' ∧ Den F φ' w' u v := by
  unfold copyV at ha
  split at ha
  case h_2 => cases ha
  rename_i e hu
  split at ha
  case h_2 => cases ha
  rename_i k hk
  split at ha
  case h_2 => cases ha
  rename_i m xs g k' o off n hsrc
  split at ha
  case h_2 => cases ha
  rename_i cs hcs
  split at ha
  case isFalse => cases ha
  rename_i hc
  obtain ⟨rfl, h0, hle⟩ := hc
  cases ha
  obtain ⟨hx, hl, hxl, news, hnc, hf⟩ := srcH_run hi h0 hsrc hrx
  have hnl := hnc.1.length
  have hmin : Nat.min m n = min n m := Nat.min_comm m n
  have hmk : min n m * k' ≤ m * k' := Nat.mul_le_mul_right k' (Nat.min_le_right n m)
  have hnk : min n m * k' ≤ n * k' := Nat.mul_le_mul_right k' (Nat.min_le_left n m)
  have hfm := hf (min n m) (Nat.min_le_right n m) w rfl
  have hxt : (xs.take (min n m * k')).length = min n m * k' := by simp; omega
  obtain ⟨ho, hcase⟩ := hsInv hr
  have zero : ∀ (a : Option Addr) (cap : Nat), r = .slice a n cap → n = 0 → ∃ u w', (Builtin.copy_ #[dt, xt] ty #[r, rx]).run P w = .ok u w' ∧ ∃ φ', Ext φ w φ' w' ∧ Inv F φ' w' (h.set o (.cells (cs.take off ++ xs.take (min n m * k') ++ cs.drop (off + min n m * k')))) ∧ Den F φ' w' u (.sc (.int .i64 (min n m : Nat))) := fun a cap e hn => by
    subst e hn
    have hs : h.set o (.cells (cs.take off ++ xs.take (min 0 m * k') ++ cs.drop (off + min 0 m * k'))) = h := by
      simp only [Nat.zero_min, Nat.zero_mul, List.take_zero, List.append_nil, Nat.add_zero, List.take_append_drop]
      exact set_same hcs
    rw [hs]
    refine ⟨.int .i64 (min 0 m : Nat), w, ?_, φ, .refl φ w, hi, den_sc rfl⟩
    cases a with
    | none => simp only [Builtin.copy_, List.getElem?_toArray, List.getElem?_cons_zero, List.getElem?_cons_succ, Sem.run_bind, run_underlying hu, Result.andThen_ok, hl, sz_run hk, hmin, hfm, Sem.run_pure, goInt]
    | some a =>
      have e0 : news.take (min 0 m * k') = [] := by simp
      rw [e0] at hfm
      simp only [Builtin.copy_, List.getElem?_toArray, List.getElem?_cons_zero, List.getElem?_cons_succ, Sem.run_bind, run_underlying hu, Result.andThen_ok, hl, sz_run hk, hmin, hfm, Sem.run_pure, goInt, storeCells]
  rcases hcase with ⟨b, cap, rfl, hb, hcap, _⟩ | ⟨rfl, a, cap, rfl, ha, _⟩
  · rcases obj_cells hi hcs with ⟨rfl, hfree⟩ | ⟨b', z, arr, T, hp, hrow, hz, hlen, hce⟩
    · have hn0 : n = 0 := by
        have : n * k' = 0 := by simp at hle; omega
        rcases Nat.mul_eq_zero.1 this with h | h
        · exact h
        · omega
      exact zero _ _ rfl hn0
    · have := (hb b' hp).1
      subst this
      obtain ⟨w', h1, h2, h3⟩ := splice_obj (P := P) hi hcs hp hrow hz (hnc.take (min n m * k')) (off := off) (by rw [hxt]; omega)
      rw [hxt] at h3
      refine ⟨.int .i64 (min n m : Nat), w', ?_, φ, h2, h3, den_sc rfl⟩
      simp only [Builtin.copy_, List.getElem?_toArray, List.getElem?_cons_zero, List.getElem?_cons_succ, Sem.run_bind, run_underlying hu, Result.andThen_ok, hl, sz_run hk, hmin, hfm, Sem.run_pure, goInt, List.toList_toArray, h1]
  · exact zero _ _ rfl rfl
theorem zeros_cells {k len : Nat} {z : Value} (h0 : 0 < k) (hzs : z.cells.size = k) (hf : z.cells.all flat = true) :
    Cells F φ w ((Array.range (len * k)).map (z.cells[· % z.cells.size]!)).toList (zeros len (z.cells.toList.map V.sc)).flatten ∧ ∀ x ∈ ((Array.range (len * k)).map (z.cells[· % z.cells.size]!)).toList, flat x = true := by
  have hf' : ∀ x ∈ z.cells.toList, flat x = true := fun x hx => Array.all_eq_true_iff_forall_mem.1 hf x (by simpa using hx)
  have zget : ∀ m, m < len * k → ((Array.range (len * k)).map (z.cells[· % z.cells.size]!))[m]? = some (z.cells[m % k]'(by rw [hzs]; exact Nat.mod_lt _ h0)) := fun m hm => by
    have hmk : m % k < z.cells.size := by rw [hzs]; exact Nat.mod_lt _ h0
    simp only [Array.getElem?_map, Array.getElem?_range, hm, if_true, Option.map_some, hzs]
    rw [getElem!_pos z.cells (m % k) hmk]
  have hall : ∀ x ∈ ((Array.range (len * k)).map (z.cells[· % z.cells.size]!)).toList, flat x = true := fun x hx => by
    obtain ⟨m, hm⟩ := List.mem_iff_getElem?.1 hx
    rw [Array.getElem?_toList] at hm
    have hlt := getLt hm
    rw [zget m (by simpa using hlt)] at hm
    cases hm
    exact hf' _ (by simp)
  have hk : ∀ (i : Nat) (e : List V), (zeros len (z.cells.toList.map V.sc))[i]? = some e → e.length = k := fun i e he => by
    unfold zeros at he
    rw [List.getElem?_replicate] at he
    split at he
    · cases he; simpa using hzs
    · cases he
  refine ⟨⟨.of_get (by rw [flat_len hk]; simp [zeros]) fun q r v hr hv => ?_, fun x hx => flat_one (hall x hx)⟩, hall⟩
  have hq : q / k * k + q % k = q := by rw [Nat.mul_comm]; exact Nat.div_add_mod q k
  have hm := Nat.mod_lt q h0
  rw [← hq, flat_get hk _ _ hm] at hv
  obtain ⟨e, he, hv⟩ := Option.bind_eq_some_iff.1 hv
  unfold zeros at he
  rw [List.getElem?_replicate] at he
  split at he
  · rename_i hlt
    cases he
    rw [List.getElem?_map] at hv
    obtain ⟨y, hy, rfl⟩ := Option.map_eq_some_iff.1 hv
    have hql : q < len * k := by
      rw [← hq]
      have : (q / k + 1) * k ≤ len * k := Nat.mul_le_mul_right k hlt
      rw [Nat.add_mul] at this; omega
    rw [Array.getElem?_toList, zget q hql] at hr
    rw [Array.getElem?_toList] at hy
    obtain ⟨hh, he⟩ := Array.getElem?_eq_some_iff.1 hy
    cases hr
    rw [he]
    exact den_sc (hf' y (by rw [← he]; simp))
  · cases he
theorem buildSliceH_gd {h : List Ho} (hi : Inv F φ w h) {rn : Nat} (hrn : φ[rn]? = some .yet) {t : TypeId} {len : Nat} {ps : List (Nat × V)} {rps : Array (Nat × Value)} {v : V} {ob : Ho} (hb : buildSliceH P rn t len ps = some (v, ob))
    (hix : rps.toList.map (·.1) = ps.map (·.1)) (hd : DenL F φ w (rps.toList.map (·.2)) (ps.map (·.2))) :
    ∃ u w', (Instr.buildSlice t len rps).run P w = .ok u w' ∧ ∃ φ', Ext φ w φ' w' ∧ Inv F φ' w' (h.set rn ob) ∧ Den F φ' w' u v := by
  unfold buildSliceH at hb
  split at hb
  case h_2 => cases hb
  rename_i e hu
  split at hb
  case h_2 => cases hb
  rename_i k z hk hz
  split at hb
  case isFalse => cases hb
  rename_i hcond
  obtain ⟨c0, c1, c2, c3⟩ := hcond
  obtain ⟨cs, hcs, heq⟩ := Option.map_eq_some_iff.1 hb
  cases heq
  obtain ⟨⟨z1, z2⟩, z3⟩ := zeros_cells (F := F) (φ := φ) (w := w) (len := len) c0 c2 c3
  obtain ⟨res, g1, g2, g3⟩ := fillV_run hcs hix hd z1 z2
  have hrun := run_buildSlice0 (P := P) (w := w) hu hk hz c1 g1
  obtain ⟨a1, a2⟩ := more_alloc w (.cells res e)
  have hlen : ∀ (ps : List (Nat × V)) (cs out : List V), fillV (fun i => some (i * k, k)) cs ps = some out → out.length = cs.length := fun ps => by
    induction ps with
    | nil => intro cs out h; simp only [fillV] at h; cases h; rfl
    | cons p ps ih =>
      intro cs out h
      obtain ⟨i, v⟩ := p
      simp only [fillV] at h
      split at h
      · rename_i hc
        rw [ih _ _ h]
        obtain ⟨h1, h2, _⟩ := hc
        rw [← h1] at h2 ⊢
        exact splice_len _ _ _ h2
      · cases h
  have hcl : cs.length = len * k := by
    rw [hlen _ _ _ hcs, flat_len (k := k)]
    · simp [zeros]
    · intro i e he
      unfold zeros at he
      rw [List.getElem?_replicate] at he
      split at he
      · cases he; simpa using c2
      · cases he
  have hrl := g2.length
  rw [Array.length_toList] at hrl
  have hln : len * 1 ≤ len * k := Nat.mul_le_mul_left len c0
  refine ⟨_, _, hrun, vec_new hi hrn a1 a2 ⟨rfl, rfl, rfl⟩ (heap_alloc_new w _) (by rw [hrl, hcl]) ⟨Nat.le_refl _, by omega⟩ (by omega) ?_⟩
  rw [List.take_of_length_le (by simp; omega)]
  exact ⟨g2, g3⟩
theorem makeSliceH_gd {h : List Ho} (hi : Inv F φ w h) {rn : Nat} (hrn : φ[rn]? = some .yet) {t : TypeId} {kl kc : IntKind} {n m : Int} {v : V} {ob : Ho} (hm : makeSliceH P rn t (some n) (some m) = some (v, ob)) :
    ∃ u w', (Instr.makeSlice t (.int kl n) (.int kc m)).run P w = .ok u w' ∧ ∃ φ', Ext φ w φ' w' ∧ Inv F φ' w' (h.set rn ob) ∧ Den F φ' w' u v := by
  unfold makeSliceH at hm
  split at hm
  case h_2 => cases hm
  rename_i n' m' e e1 e2 hu
  cases e1; cases e2
  split at hm
  case h_2 => cases hm
  rename_i k b z hk hb hz
  split at hm
  case isFalse => cases hm
  rename_i hc
  obtain ⟨c0, c1, rfl, c3, c4, c5, c6⟩ := hc
  cases hm
  obtain ⟨n, rfl⟩ := Int.eq_ofNat_of_zero_le c1
  simp only [Int.toNat_natCast] at c3 c4 ⊢
  have hbs : buildSliceH P rn t n [] = some (.hs true k rn 0 n, .cells (zeros n (z.cells.toList.map V.sc)).flatten) := by
    unfold buildSliceH
    rw [hu]
    simp only [hk, hz]
    rw [if_pos ⟨c0, c3, c5, c6⟩]
    rfl
  obtain ⟨u, w', h1, h2⟩ := buildSliceH_gd (P := P) hi hrn (rps := #[]) hbs rfl .nil
  refine ⟨u, w', ?_, h2⟩
  rw [← h1]
  obtain ⟨i, hi1, hi2, hi3, hi4⟩ : ∃ i, P.info? e = some i ∧ i.size = k ∧ i.bytes = b ∧ i.zero = some z := by
    unfold szT at hk; unfold byT at hb; unfold zeroT at hz
    cases hq : P.info? e with
    | none => simp [hq] at hk
    | some i => exact ⟨i, rfl, by simpa [hq] using hk, by simpa [hq] using hb, by simpa [hq] using hz⟩
  have hn : n * 1 ≤ n * k := Nat.mul_le_mul_left n c0
  have h3 := run_makeSlice (P := P) (w := w) t e i z hu hi1 hi4 kl kc (n : Int) (n : Int) c1 (Int.le_refl _) (by rw [hi2]; simpa using c3) (by rw [hi3]; omega) (by omega)
  have h4 := run_buildSlice0 (P := P) (w := w) (t := t) (e := e) (len := n) (parts := #[]) (k := k) (z := z) hu hk hz c3 (by simp [Instr.fill]; rfl)
  rw [h3, h4, hi2]
  simp only [Int.toNat_natCast, madeCells]
theorem isKey_of {d : TypeDesc} {k : Value} (h : keyOk d k = true) : IsKey d k := by
  cases d <;> cases k <;> simp_all [keyOk, IsKey]
theorem keyEq_iff {d : TypeDesc} {a b : Value} (ha : keyOk d a = true) (hb : keyOk d b = true) : keyEq a b = true ↔ a = b := by
  cases d <;> cases a <;> cases b <;> simp_all [keyOk, keyEq, bytes_beq]
theorem find_map {d : TypeDesc} {key : Value} (hk : keyOk d key = true) : ∀ (l : List MapEntry) (es : List ME) (i : Nat), l.length = es.length →
    (∀ (j : Nat) (m : MapEntry) (e : ME), l[j]? = some m → es[j]? = some e → m.key = e.key) → keysOk d es = true →
    (mget es key = none ∧ Instr.findNow d key l i = some none ∧ (∀ c v, mset c es key v = es ++ [⟨c, key, v⟩]) ∧ mdel es key = es ∧ ∀ c z, ment c z es key = (z, c, es ++ [⟨c, key, z⟩])) ∨
    (∃ (j : Nat) (m : MapEntry) (e : ME), l[j]? = some m ∧ es[j]? = some e ∧ m.key = key ∧ e.key = key ∧ mget es key = some e.val ∧ Instr.findNow d key l i = some (some (i + j, m.val)) ∧ (∀ c v, mset c es key v = es.set j ⟨e.born, key, v⟩) ∧ mdel es key = es.eraseIdx j ∧ ∀ c z, ment c z es key = (e.val, e.born, es.set j ⟨e.born, key, e.val⟩))
  | [], [], i, _, _, _ => .inl ⟨rfl, rfl, fun _ _ => rfl, rfl, fun _ _ => rfl⟩
  | [], _ :: _, _, h, _, _ => by simp at h
  | _ :: _, [], _, h, _, _ => by simp at h
  | m :: l, e :: es, i, hl, hkeys, hok => by
    have hok' : keyOk d e.key = true ∧ keysOk d es = true := by simpa [keysOk] using hok
    have hme : m.key = e.key := hkeys 0 m e rfl rfl
    obtain ⟨r, hr, hiff⟩ := sameNow_of_keys (isKey_of hk) (b := m.key) (by rw [hme]; exact isKey_of hok'.1)
    have hke := keyEq_iff hk hok'.1
    by_cases heq : key = e.key
    · have h1 : keyEq key e.key = true := hke.2 heq
      have h2 : r = true := hiff.2 (by rw [hme]; exact heq)
      subst h2
      exact .inr ⟨0, m, e, rfl, rfl, by rw [hme, heq], heq.symm, by simp [mget, h1], by simp [Instr.findNow, hr], fun c v => by simp [mset, h1], by simp [mdel, h1], fun c z => by simp [ment, h1]⟩
    · have h1 : keyEq key e.key = false := by
        cases hh : keyEq key e.key with
        | false => rfl
        | true => exact absurd (hke.1 hh) heq
      have h2 : r = false := by
        cases r with
        | false => rfl
        | true => exact absurd (by rw [← hme]; exact hiff.1 rfl) heq
      subst h2
      rcases find_map hk l es (i + 1) (by simpa using hl) (fun j m e hm he => hkeys (j + 1) m e (by simpa using hm) (by simpa using he)) hok'.2 with ⟨a1, a2, a3, a4, a5⟩ | ⟨j, m', e', a1, a2, a3, a4, a5, a6, a7, a8, a9⟩
      · exact .inl ⟨by simp [mget, h1, a1], by simp [Instr.findNow, hr, a2], fun c v => by simp [mset, h1, a3], by simp [mdel, h1, a4], fun c z => by simp [ment, h1, a5]⟩
      · exact .inr ⟨j + 1, m', e', by simpa using a1, by simpa using a2, a3, a4, by simp [mget, h1, a5], by simp [Instr.findNow, hr, a6]; omega, fun c v => by simp [mset, h1, a7], by simp [mdel, h1, a8], fun c z => by simp [ment, h1, a9]⟩
theorem map_obj {h : List Ho} (hi : Inv F φ w h) {o : Nat} {g : GM} {r : Value} (hr : Den F φ w r (.mp o)) (ho : h[o]? = some (.map g)) :
    ∃ (b z : Nat) (ents : Array MapEntry), r = .map (some b) ∧ φ[o]? = some (.obj b z) ∧ w.heap[b]? = some (.map ents g.c) ∧ ents.size = g.es.length ∧
      ∀ (j : Nat) (m : MapEntry) (e : ME), ents[j]? = some m → g.es[j]? = some e → (m.key = e.key ∧ m.born = e.born) ∧ Den F φ w m.val e.val := by
  cases hr with
  | mp hlv hb =>
    obtain ⟨p, hp⟩ := ofLtL (xs := φ) (i := o) (by rw [hi.len]; exact get_lt ho)
    have hok := hi.ok o p _ hp ho
    cases p <;> simp only [ObOk] at hok
    obtain ⟨ents, clock, h1, ⟨rfl, h2⟩, h3⟩ := hok
    have := hb _ hp
    subst this
    exact ⟨_, _, ents, rfl, hp, h1, h2, h3⟩
theorem lookup_run_of {t kt et : TypeId} {kd : TypeDesc} {r s zv : Value} {ents : Array MapEntry} {a : Option (Nat × Value)} (hents : (r = .map none ∧ ents = #[]) ∨ ∃ b clock, r = .map (some b) ∧ w.heap[b]? = some (.map ents clock))
    (hu : P.underlying t = some (.map kt et)) (hkd : P.underlying kt = some kd) (hik : IsKey kd s) (hf : Instr.findNow kd s ents.toList 0 = some a) (hz : (zeroValue et).run P w = .ok zv w) (ok : Bool) :
    (Instr.lookup t r s ok).run P w = .ok (match a with
      | some (_, v) => if ok then .tuple #[v, .bool true] else v
      | none => if ok then .tuple #[zv, .bool false] else zv) w := by
  have hfk := run_findKey (P := P) (w := w) hkd hf
  rcases hents with ⟨rfl, rfl⟩ | ⟨b, clock, rfl, hblk⟩
  · cases a with
    | none => cases ok <;> simp [Instr.lookup, run_underlying hu, run_checkKey hkd hik, hfk, hz, Result.andThen]
    | some a => simp [Instr.findNow] at hf
  · cases a with
    | none => cases ok <;> simp [Instr.lookup, run_underlying hu, MapKept.run_getObj_map hblk, run_checkKey hkd hik, hfk, hz, Result.andThen]
    | some a => cases ok <;> simp [Instr.lookup, run_underlying hu, MapKept.run_getObj_map hblk, run_checkKey hkd hik, hfk, hz, Result.andThen]
theorem lookupV_run {h : List Ho} (hi : Inv F φ w h) {t : TypeId} {x k v : V} {ok : Bool} (hl : lookupV P h t x k ok = some v) {r s : Value} (hr : Den F φ w r x) (hs : Den F φ w s k) :
    ∃ u, (Instr.lookup t r s ok).run P w = .ok u w ∧ Den F φ w u v := by
  unfold lookupV at hl
  split at hl
  case h_2 => cases hl
  rename_i kt et key hu
  split at hl
  case h_2 => cases hl
  rename_i kd gm z hkd hmap hz
  split at hl
  case isFalse => cases hl
  rename_i hc
  obtain ⟨hko, hkso⟩ := hc
  obtain ⟨rfl, _⟩ := hs.sc
  obtain ⟨zv, hzt, hzc⟩ := Option.bind_eq_some_iff.1 hz
  have hzr := zeroT_run (P := P) (w := w) hzt
  have hzd : Den F φ w zv z := constV_den hzc
  have hik := isKey_of hko
  obtain ⟨ents, hents, hsz, hent⟩ : ∃ (ents : Array MapEntry), ((r = .map none ∧ ents = #[]) ∨ ∃ b clock, r = .map (some b) ∧ w.heap[b]? = some (.map ents clock)) ∧ ents.size = gm.es.length ∧
      ∀ (j : Nat) (m : MapEntry) (e : ME), ents[j]? = some m → gm.es[j]? = some e → m.key = e.key ∧ Den F φ w m.val e.val := by
    unfold mapOf at hmap
    split at hmap
    · rename_i o
      split at hmap
      · rename_i es' hes
        cases hmap
        obtain ⟨b, zz, ents, rfl, hp, hblk, hsz, hent⟩ := map_obj hi hr hes
        exact ⟨ents, .inr ⟨b, _, rfl, hblk⟩, hsz, fun j m e hm he => ⟨(hent j m e hm he).1.1, (hent j m e hm he).2⟩⟩
      · cases hmap
    · cases hmap
      obtain ⟨rfl, _⟩ := hr.sc
      exact ⟨#[], .inl ⟨rfl, rfl⟩, rfl, fun j m e hm => by simp at hm⟩
    · cases hmap
  have hfm := find_map hko ents.toList gm.es 0 (by simpa using hsz) (fun j m e hm he => (hent j m e (by simpa using hm) he).1) hkso
  unfold GM.get at hl
  rcases hfm with ⟨a1, a2, _⟩ | ⟨j, m, e, a1, a2, a3, a4, a5, a6, _⟩
  · rw [a1] at hl
    refine ⟨_, lookup_run_of hents hu hkd hik a2 hzr ok, ?_⟩
    cases ok with
    | false => cases hl; exact hzd
    | true =>
      cases hl
      refine .tup rfl fun i r v hr hv => ?_
      match i, hr, hv with
      | 0, hr, hv => simp at hr hv; subst hr hv; exact hzd
      | 1, hr, hv => simp at hr hv; subst hr hv; exact den_sc rfl
  · rw [a5] at hl
    have hdv := (hent j m e (by simpa using a1) a2).2
    refine ⟨_, lookup_run_of hents hu hkd hik a6 hzr ok, ?_⟩
    cases ok with
    | false => cases hl; exact hdv
    | true =>
      cases hl
      refine .tup rfl fun i r v hr hv => ?_
      match i, hr, hv with
      | 0, hr, hv => simp at hr hv; subst hr hv; exact hdv
      | 1, hr, hv => simp at hr hv; subst hr hv; exact den_sc rfl
theorem map_set {h : List Ho} (hi : Inv F φ w h) {o b z : Nat} {ents ents' : Array MapEntry} {clock : Nat} {g' : GM} (hp : φ[o]? = some (.obj b z)) (hblk : w.heap[b]? = some (.map ents clock)) (hsz : ents'.size = g'.es.length)
    (hent : ∀ (j : Nat) (m : MapEntry) (e : ME), ents'[j]? = some m → g'.es[j]? = some e → (m.key = e.key ∧ m.born = e.born) ∧ Den F φ w m.val e.val) :
    Ext φ w φ { w with heap := w.heap.setIfInBounds b (.map ents' g'.c) } ∧ Inv F φ { w with heap := w.heap.setIfInBounds b (.map ents' g'.c) } (h.set o (.map g')) := by
  obtain ⟨h1, h2⟩ := heap_set (o' := .map ents' g'.c) hblk
  have hap : ∀ (j : Nat) (q : Pl), φ[j]? = some q → q.blk = some b → j = o := fun j q hq hqb => hi.apart j o q _ b hq hp hqb rfl
  have hs : ({ w with heap := w.heap.setIfInBounds b (.map ents' g'.c) } : World).heap.size = w.heap.size := by simp
  have he := Ext.atObj hp hap hs h2
  exact ⟨he, hi.atObj hp hs h2 ⟨ents', g'.c, h1, ⟨rfl, hsz⟩, fun j m e hm he' => ⟨(hent j m e hm he').1, (hent j m e hm he').2.ext he⟩⟩⟩
theorem atMap_run {h h' : List Ho} (hi : Inv F φ w h) {t : TypeId} {x k v : V} {f : GM → Value → TypeId → Option (V × GM)} (hl : atMap P h t x k f = some (v, h')) {r s : Value} (hr : Den F φ w r x) (hs : Den F φ w s k) {α : Type} {run : Sem α} {C : α → Prop}
    (hrun : ∀ (kt et : TypeId) (kd : TypeDesc) (g g' : GM) (b z o : Nat) (ents : Array MapEntry), P.underlying t = some (.map kt et) → P.underlying kt = some kd → r = .map (some b) → w.heap[b]? = some (.map ents g.c) → keyOk kd s = true → keysOk kd g.es = true → ents.size = g.es.length → φ[o]? = some (.obj b z) →
      (∀ (j : Nat) (m : MapEntry) (e : ME), ents[j]? = some m → g.es[j]? = some e → (m.key = e.key ∧ m.born = e.born) ∧ Den F φ w m.val e.val) → f g s et = some (v, g') →
      ∃ (ents' : Array MapEntry) (u : α), run.run P w = .ok u { w with heap := w.heap.setIfInBounds b (.map ents' g'.c) } ∧ ents'.size = g'.es.length ∧ C u ∧
        ∀ (j : Nat) (m : MapEntry) (e : ME), ents'[j]? = some m → g'.es[j]? = some e → (m.key = e.key ∧ m.born = e.born) ∧ Den F φ w m.val e.val) :
    ∃ u w', run.run P w = .ok u w' ∧ C u ∧ Ext φ w φ w' ∧ Inv F φ w' h' := by
  unfold atMap at hl
  split at hl
  case h_2 => cases hl
  rename_i kt et o key hut
  split at hl
  case h_2 => cases hl
  rename_i kd g hkd hes
  split at hl
  case isFalse => cases hl
  rename_i hc
  obtain ⟨hko, hkso⟩ := hc
  obtain ⟨⟨v', g'⟩, hf, heq⟩ := Option.map_eq_some_iff.1 hl
  cases heq
  obtain ⟨rfl, _⟩ := hs.sc
  obtain ⟨b, z, ents, rfl, hp, hblk, hsz, hent⟩ := map_obj hi hr hes
  obtain ⟨ents', u, h1, h2, h3, h4⟩ := hrun kt et kd g g' b z o ents hut hkd rfl hblk hko hkso hsz hp hent hf
  obtain ⟨h5, h6⟩ := map_set hi hp hblk h2 h4
  exact ⟨u, _, h1, h3, h5, h6⟩
theorem mapUpdateV_run {h h' : List Ho} (hi : Inv F φ w h) {t : TypeId} {x k v y : V} (hl : mapUpdateV P h t x k v = some (y, h')) {r s u : Value} (hr : Den F φ w r x) (hs : Den F φ w s k) (hu : Den F φ w u v) :
    y = .undef ∧ ∃ w', (Instr.mapUpdate t r s u).run P w = .ok () w' ∧ Ext φ w φ w' ∧ Inv F φ w' h' := by
  have hy : y = .undef := by
    unfold mapUpdateV atMap at hl
    repeat' (split at hl)
    all_goals first | (cases hl; done) | (simp only [Option.map_some, Option.some.injEq, Prod.mk.injEq] at hl; exact hl.1.symm)
  refine ⟨hy, ?_⟩
  obtain ⟨q, w', h1, _, h2, h3⟩ := atMap_run (run := Instr.mapUpdate t r s u) (C := fun _ => True) hi hl hr hs (by
    intro kt et kd g g' b z o ents hut hkd hrb hblk hko hkso hsz hp hent hf
    subst hrb
    cases hf
    have hik := isKey_of hko
    rcases find_map hko ents.toList g.es 0 (by simpa using hsz) (fun j m e hm he => (hent j m e (by simpa using hm) he).1.1) hkso with ⟨a1, a2, a3, _⟩ | ⟨j, m, e, a1, a2, a3, a4, a5, a6, a7, _⟩
    · refine ⟨ents.push { key := s, val := u, born := g.c }, (), ?_, ?_, trivial, ?_⟩
      · have ec : (g.set s v).c = g.c + 1 := by simp [GM.set, a1]
        rw [ec]
        simp [Instr.mapUpdate, run_underlying hut, MapKept.run_getObj_map hblk, run_checkKey hkd hik, run_findKey hkd a2, run_setObj_map _ hblk, Result.andThen]
      · simp [GM.set, a3, hsz]
      · intro j m e hm he
        simp only [GM.set, a3] at he
        rw [Array.getElem?_push] at hm
        split at hm
        · rename_i hj
          cases hm
          rcases get_snoc he with ⟨hlt, _⟩ | ⟨_, rfl⟩
          · omega
          · exact ⟨⟨rfl, rfl⟩, hu⟩
        · have hlt := getLt hm
          rw [List.getElem?_append_left (by omega)] at he
          exact hent j m e hm he
    · have hj : ents[j]? = some m := by simpa using a1
      simp only [Nat.zero_add] at a6
      refine ⟨ents.modify j fun e => { e with key := s, val := u }, (), ?_, ?_, trivial, ?_⟩
      · have ec : (g.set s v).c = g.c := by simp [GM.set, a5]
        rw [ec]
        simp [Instr.mapUpdate, run_underlying hut, MapKept.run_getObj_map hblk, run_checkKey hkd hik, run_findKey hkd a6, hj, a3, run_keyThatStays hik, run_setObj_map _ hblk, Result.andThen]
      · simp [GM.set, a7, hsz]
      · intro i m' e' hm he
        simp only [GM.set, a7] at he
        rw [Array.getElem?_modify] at hm
        rcases get_set he with ⟨rfl, rfl, _⟩ | ⟨hne, he⟩
        · rw [if_pos rfl, hj] at hm
          cases hm
          have := (hent i m e hj a2).1.2
          exact ⟨⟨rfl, this⟩, hu⟩
        · rw [if_neg (fun e => hne e.symm)] at hm
          exact hent i m' e' hm he)
  exact ⟨w', h1, h2, h3⟩
theorem deleteV_run {h h' : List Ho} (hi : Inv F φ w h) {t t2 ty : TypeId} {x k y : V} (hl : deleteV P h t x k = some (y, h')) {r s : Value} (hr : Den F φ w r x) (hs : Den F φ w s k) :
    ∃ u w', (Builtin.delete_ #[t, t2] ty #[r, s]).run P w = .ok u w' ∧ ∃ φ', Ext φ w φ' w' ∧ Inv F φ' w' h' ∧ Den F φ' w' u y := by
  have hy : y = .undef := by
    unfold deleteV atMap at hl
    repeat' (split at hl)
    all_goals first | (cases hl; done) | (simp only [Option.map_some, Option.some.injEq, Prod.mk.injEq] at hl; exact hl.1.symm)
  subst hy
  obtain ⟨q, w', h1, rfl, h2, h3⟩ := atMap_run (run := Builtin.delete_ #[t, t2] ty #[r, s]) (C := fun q => q = undef) hi hl hr hs (by
    intro kt et kd g g' b z o ents hut hkd hrb hblk hko hkso hsz hp hent hf
    subst hrb
    cases hf
    have hik := isKey_of hko
    rcases find_map hko ents.toList g.es 0 (by simpa using hsz) (fun j m e hm he => (hent j m e (by simpa using hm) he).1.1) hkso with ⟨a1, a2, _, a3, _⟩ | ⟨j, m, e, a1, a2, a3, a4, a5, a6, _, a8, _⟩
    · refine ⟨ents, undef, ?_, ?_, rfl, ?_⟩
      · simp [GM.del, undef, Builtin.delete_, run_underlying hut, MapKept.run_getObj_map hblk, run_checkKey hkd hik, run_findKey hkd a2, run_setObj_map _ hblk, Result.andThen]
      · simpa [GM.del, a3] using hsz
      · intro j m e hm he
        simp only [GM.del, a3] at he
        exact hent j m e hm he
    · have hjl : j < ents.size := by have := get_lt a1; simpa using this
      have her : ents.eraseIdxIfInBounds j = ents.eraseIdx j hjl := by simp [Array.eraseIdxIfInBounds, hjl]
      simp only [Nat.zero_add] at a6
      refine ⟨ents.eraseIdxIfInBounds j, undef, ?_, ?_, rfl, ?_⟩
      · simp [GM.del, undef, Builtin.delete_, run_underlying hut, MapKept.run_getObj_map hblk, run_checkKey hkd hik, run_findKey hkd a6, run_setObj_map _ hblk, Result.andThen]
      · rw [her]; simp [GM.del, a8, hsz, List.length_eraseIdx, get_lt a2]
      · intro i m' e' hm he
        simp only [GM.del, a8] at he
        rw [her, ← Array.getElem?_toList, Array.toList_eraseIdx, List.getElem?_eraseIdx] at hm
        rw [List.getElem?_eraseIdx] at he
        split at hm
        · rename_i hlt; rw [if_pos hlt] at he; exact hent i m' e' (by simpa using hm) he
        · rename_i hlt; rw [if_neg hlt] at he; exact hent _ m' e' (by simpa using hm) he)
  exact ⟨_, w', h1, φ, h2, h3, den_undef⟩
theorem mapEntryV_run {h h' : List Ho} (hi : Inv F φ w h) {t : TypeId} {x k y : V} (hl : mapEntryV P h t x k = some (y, h')) {r s : Value} (hr : Den F φ w r x) (hs : Den F φ w s k) :
    ∃ u w', (Instr.mapEntry t r s).run P w = .ok u w' ∧ ∃ φ', Ext φ w φ' w' ∧ Inv F φ' w' h' ∧ Den F φ' w' u y := by
  obtain ⟨q, w', h1, hd, h2, h3⟩ := atMap_run (run := Instr.mapEntry t r s) (C := fun q => Den F φ w q y) hi hl hr hs (by
    intro kt et kd g g' b z o ents hut hkd hrb hblk hko hkso hsz hp hent hf
    subst hrb
    split at hf
    case h_2 => cases hf
    rename_i zz hz
    cases hf
    obtain ⟨zv, hzt, hzc⟩ := Option.bind_eq_some_iff.1 hz
    have hzr := zeroT_run (P := P) (w := w) hzt
    have hzd : Den F φ w zv zz := constV_den hzc
    have hik := isKey_of hko
    have tup2 : ∀ {a : Value} {va : V} {n : Nat}, Den F φ w a va → Den F φ w (.tuple #[a, .int .i64 n]) (.tup [va, .sc (.int .i64 n)]) := fun h => .tup rfl fun i r v hr hv => by
      match i, hr, hv with
      | 0, hr, hv => simp at hr hv; subst hr hv; exact h
      | 1, hr, hv => simp at hr hv; subst hr hv; exact den_sc rfl
    rcases find_map hko ents.toList g.es 0 (by simpa using hsz) (fun j m e hm he => (hent j m e (by simpa using hm) he).1.1) hkso with ⟨a1, a2, _, _, a3⟩ | ⟨j, m, e, a1, a2, a3, a4, a5, a6, _, _, a7⟩
    · refine ⟨ents.push { key := s, val := zv, born := g.c }, .tuple #[zv, .int .i64 g.c], ?_, ?_, ?_, ?_⟩
      · have ec : (g.ent zz s).2.2.c = g.c + 1 := by simp [GM.ent, a1]
        rw [ec]
        simp [Instr.mapEntry, run_underlying hut, MapKept.run_getObj_map hblk, run_checkKey hkd hik, run_findKey hkd a2, hzr, run_setObj_map _ hblk, Result.andThen, goInt]
      · simp [GM.ent, a3, hsz]
      · simp only [GM.ent, a3]; exact tup2 hzd
      · intro j m e hm he
        simp only [GM.ent, a3] at he
        rw [Array.getElem?_push] at hm
        split at hm
        · rename_i hj
          cases hm
          rcases get_snoc he with ⟨hlt, _⟩ | ⟨_, rfl⟩
          · omega
          · exact ⟨⟨rfl, rfl⟩, hzd⟩
        · have hlt := getLt hm
          rw [List.getElem?_append_left (by omega)] at he
          exact hent j m e hm he
    · have hj : ents[j]? = some m := by simpa using a1
      simp only [Nat.zero_add] at a6
      have hmb := (hent j m e hj a2).1.2
      refine ⟨ents.modify j fun e => { e with key := s }, .tuple #[m.val, .int .i64 m.born], ?_, ?_, ?_, ?_⟩
      · have ec : (g.ent zz s).2.2.c = g.c := by simp [GM.ent, a5]
        rw [ec]
        simp [Instr.mapEntry, run_underlying hut, MapKept.run_getObj_map hblk, run_checkKey hkd hik, run_findKey hkd a6, hj, a3, run_keyThatStays hik, run_setObj_map _ hblk, Result.andThen, goInt]
      · simp [GM.ent, a7, hsz]
      · simp only [GM.ent, a7]
        rw [← hmb]
        exact tup2 (hent j m e hj a2).2
      · intro i m' e' hm he
        simp only [GM.ent, a7] at he
        rw [Array.getElem?_modify] at hm
        rcases get_set he with ⟨rfl, rfl, _⟩ | ⟨hne, he⟩
        · rw [if_pos rfl, hj] at hm
          cases hm
          exact ⟨⟨rfl, hmb⟩, (hent i m e hj a2).2⟩
        · rw [if_neg (fun e => hne e.symm)] at hm
          exact hent i m' e' hm he)
  exact ⟨q, w', h1, φ, h2, h3, hd.ext h2⟩
theorem mstore_spec {ents : List MapEntry} : ∀ {es es' : List ME} {b : Nat} {v : V}, mstore es b v = some es' → ents.length = es.length → (∀ (j : Nat) (m : MapEntry) (e : ME), ents[j]? = some m → es[j]? = some e → m.born = e.born) →
    ∃ (j : Nat) (e : ME), es[j]? = some e ∧ e.born = b ∧ es' = es.set j ⟨e.born, e.key, v⟩ ∧ ents.findIdx? (fun e => (e.born : Int) == (b : Int)) = some j := by
  intro es
  induction es generalizing ents with
  | nil => intro es' b v h; simp [mstore] at h
  | cons e es ih =>
    intro es' b v h hl hb
    cases ents with
    | nil => simp at hl
    | cons m ents =>
      have hm := hb 0 m e rfl rfl
      simp only [mstore] at h
      split at h
      · rename_i heq
        cases h
        refine ⟨0, e, rfl, heq, rfl, ?_⟩
        simp [List.findIdx?_cons, hm, heq]
      · rename_i hne
        obtain ⟨es1, h1, rfl⟩ := Option.map_eq_some_iff.1 h
        obtain ⟨j, e', g1, g2, g3, g4⟩ := ih (ents := ents) h1 (by simpa using hl) fun j m e hm he => hb (j + 1) m e (by simpa using hm) (by simpa using he)
        refine ⟨j + 1, e', by simpa using g1, g2, by rw [g3]; rfl, ?_⟩
        have : ((m.born : Int) == (b : Int)) = false := by rw [hm]; simp; omega
        simp [List.findIdx?_cons, this, g4]
theorem entryStoreV_run {h h' : List Ho} (hi : Inv F φ w h) {t : TypeId} {x s v y : V} (hl : entryStoreV h x s v = some (y, h')) {r rs u : Value} (hr : Den F φ w r x) (hs : Den F φ w rs s) (hu : Den F φ w u v) :
    y = .undef ∧ ∃ w', (Instr.entryStore t r rs u).run P w = .ok () w' ∧ Ext φ w φ w' ∧ Inv F φ w' h' := by
  unfold entryStoreV at hl
  split at hl
  case h_2 => cases hl
  rename_i o k n
  split at hl
  case h_2 => cases hl
  rename_i g hes
  split at hl
  case isFalse => cases hl
  rename_i hn
  obtain ⟨g', hg', heq⟩ := Option.map_eq_some_iff.1 hl
  cases heq
  refine ⟨rfl, ?_⟩
  obtain ⟨es', hst, rfl⟩ := Option.map_eq_some_iff.1 hg'
  obtain ⟨rfl, _⟩ := hs.sc
  obtain ⟨n, rfl⟩ := Int.eq_ofNat_of_zero_le hn
  simp only [Int.toNat_natCast] at hst
  obtain ⟨b, z, ents, rfl, hp, hblk, hsz, hent⟩ := map_obj hi hr hes
  obtain ⟨j, e, g1, g2, g3, g4⟩ := mstore_spec (ents := ents.toList) hst (by simpa using hsz) fun j m e hm he => (hent j m e (by simpa using hm) he).1.2
  have hfi : ents.findIdx? (fun e => (e.born : Int) == (n : Int)) = some j := by rw [← g4]; cases ents; simp
  obtain ⟨h1, h2⟩ := map_set (ents' := ents.modify j fun e => { e with val := u }) (g' := ⟨g.c, es'⟩) hi hp hblk (by simp [g3, hsz]) (fun i m' e' hm he => by
    simp only [g3] at he
    rw [Array.getElem?_modify] at hm
    rcases get_set he with ⟨rfl, rfl, _⟩ | ⟨hne, he⟩
    · rw [if_pos rfl] at hm
      obtain ⟨m0, hm0, rfl⟩ := Option.map_eq_some_iff.1 hm
      obtain ⟨⟨q1, q2⟩, _⟩ := hent i m0 e hm0 g1
      exact ⟨⟨q1, q2⟩, hu⟩
    · rw [if_neg (fun e => hne e.symm)] at hm
      exact hent i m' e' hm he)
  refine ⟨_, ?_, h1, h2⟩
  simp [Instr.entryStore, MapKept.run_getObj_map hblk, asInt, asIntOf, hfi, run_setObj_map _ hblk, Result.andThen]
theorem makeMap_gd {h : List Ho} (hi : Inv F φ w h) {rn : Nat} (hrn : φ[rn]? = some .yet) (t : TypeId) :
    ∃ u w', (Instr.makeMap t none).run P w = .ok u w' ∧ ∃ φ', Ext φ w φ' w' ∧ Inv F φ' w' (h.set rn (.map ⟨0, []⟩)) ∧ Den F φ' w' u (.mp rn) := by
  obtain ⟨a1, a2⟩ := more_alloc w (.map #[] 0)
  have hp : ∀ b, (Pl.obj w.heap.size 0).blk = some b → w.heap.size ≤ b := fun b hb => by cases hb; exact Nat.le_refl _
  have he := Ext.fill (φ := φ) (.obj w.heap.size 0) hrn a1 a2 hp
  have hat : (φ.set rn (.obj w.heap.size 0))[rn]? = some (.obj w.heap.size 0) := List.getElem?_set_self (get_lt hrn)
  refine ⟨.map (some w.heap.size), w.alloc (.map #[] 0), by simp [Instr.makeMap], _, he, hi.fill _ _ hrn a1 a2 hp ⟨#[], 0, heap_alloc_new w _, ⟨rfl, rfl⟩, fun j m e hm => by simp at hm⟩, .mp ⟨_, hat, by simp⟩ fun b' hb' => ?_⟩
  rw [hat] at hb'; cases hb'; rfl
theorem convHV_gd {h h' : List Ho} (hi : Inv F φ w h) {src dst : TypeId} {g : Bool} {k o off n : Nat} {v : V} {r : Value} (hc : convHV P h src dst k o off n = some (v, h')) (hr : Den F φ w r (.hs g k o off n)) :
    ∃ u w', (convert src dst r).run P w = .ok u w' ∧ ∃ φ', Ext φ w φ' w' ∧ Inv F φ' w' h' ∧ Den F φ' w' u v := by
  unfold convHV at hc
  split at hc
  case h_2 => cases hc
  rename_i cs hcs
  split at hc
  case h_2 => cases hc
  rename_i s e ds hs hd hds
  split at hc
  case h_2 => cases hc
  rename_i he
  split at hc
  case isFalse => cases hc
  rename_i hcond
  obtain ⟨rfl, rfl, rfl, hn, h0⟩ := hcond
  cases hc
  obtain ⟨ho, hcase⟩ := hsInv hr
  rcases hcase with ⟨b, cap, rfl, hb, hcap, hcm, _⟩ | ⟨e0, _⟩
  case inr => omega
  rcases obj_cells hi hcs with ⟨e1, _⟩ | ⟨b', z, arr, T, hp, hrow, hz, hlen, hce⟩
  · rw [e1] at hn; simp at hn; omega
  obtain ⟨rfl, _⟩ := hb b' hp
  obtain ⟨hdl, hdd⟩ := toDs_den hds hce.1
  have hbl := hi.lt hp rfl
  obtain ⟨w', hw'⟩ : ∃ w', w' = w.freeze ⟨b', arr.size, none⟩ 1 := ⟨_, rfl⟩
  have hrun : (convert src src (.slice (some ⟨b', 0, none⟩) n cap)).run P w = .ok (.slice (some ⟨b', 0, none⟩) n cap) w' := by
    have hsh : w.shape? b' = some (T, arr.size) := by unfold World.shape?; rw [hrow]
    rw [hs] at hd
    cases hd
    simp [convert, run_underlying hs, run_underlying he, markStringish, hsh, hw']
  have hheap : ∀ x : Nat, w'.heap[x]? = if x = b' then some (.cells arr T (arr.size, arr.size + 1)) else w.heap[x]? := fun x => by
    rw [hw']
    unfold World.freeze
    rw [if_neg (by decide)]
    show (w.heap.modify b' _)[x]? = _
    rw [Array.getElem?_modify]
    by_cases hx : b' = x
    · subst hx; rw [if_pos rfl, if_pos rfl, hrow]; rfl
    · rw [if_neg hx, if_neg (fun e => hx e.symm)]
  have hsize : w'.heap.size = w.heap.size := by
    rw [hw']; unfold World.freeze; rw [if_neg (by decide)]; show (w.heap.modify b' _).size = _; simp
  have hio : Still w w' := by rw [hw']; unfold World.freeze; rw [if_neg (by decide)]; exact ⟨rfl, rfl, rfl⟩
  have hother : ∀ (i : Nat) (p : Pl) (x : Nat), i ≠ o → φ[i]? = some p → p.blk = some x → x ≠ b' := fun i p x hne hpi hx e => by
    subst e; exact hne (hi.apart i o p _ x hpi hp hx rfl)
  have hext : Ext φ w (φ.set o .dead) w' := by
    refine ⟨by omega, by simp, fun i hl => ?_, fun x hx hno => ?_, fun i x e hpi c T' fr hx => ?_, fun i x hpi hx => ?_, fun i x e' hpi hx => ?_, hio⟩
    · rw [List.getElem?_set]
      by_cases e : o = i
      · subst e; rw [if_pos rfl, if_pos (get_lt hp)]; exact .inr rfl
      · rw [if_neg e]; exact .inl rfl
    · rw [hheap, if_neg]; intro e; subst e; exact hno o _ hp rfl
    · have hne : i ≠ o := fun e => by subst e; rw [hp] at hpi; cases hpi
      exact ⟨c, by rw [hheap, if_neg (hother i _ x hne hpi rfl)]; exact hx, rfl, fun _ _ => rfl⟩
    · rcases get_set hpi with ⟨_, e, _⟩ | ⟨_, hpi⟩
      · cases e
      · exact ⟨i, _, hpi⟩
    · rcases get_set hpi with ⟨_, e, _⟩ | ⟨_, hpi⟩
      · cases e
      · exact .inl ⟨i, e', hpi, Nat.le_refl _⟩
  have hinv : Inv F (φ.set o .dead) w' (h.set o .dead) := by
    refine hi.step hext (by simp [hi.len]) (fun j p x hpj hx => ?_) (fun j l p q x hpj hpl hx hx' => ?_) fun j p x hpj hx => ?_
    · rcases get_set hpj with ⟨rfl, rfl, _⟩ | ⟨hne, hpj⟩
      · rcases get_set hx with ⟨_, rfl, _⟩ | ⟨hne, _⟩
        · exact .inr trivial
        · exact absurd rfl hne
      · rcases get_set hx with ⟨e, _, _⟩ | ⟨_, hx⟩
        · exact absurd e hne
        · exact .inl ⟨hpj, hx, fun y hy => by rw [hheap, if_neg (hother j p y hne hpj hy)]⟩
    · rcases get_set hpj with ⟨_, rfl, _⟩ | ⟨_, hpj⟩
      · cases hx
      · rcases get_set hpl with ⟨_, rfl, _⟩ | ⟨_, hpl⟩
        · cases hx'
        · exact hi.apart j l p q x hpj hpl hx hx'
    · rcases get_set hpj with ⟨_, rfl, _⟩ | ⟨_, hpj⟩
      · cases hx
      · exact .inl ⟨j, p, hpj, hx⟩
  have hpr : ∀ j, prot F (φ.set o .dead) w' b' j := fun j => by
    refine ⟨by omega, fun i hpi => ?_, fun i e hpi => ?_, hi.frO o _ b' j hp rfl⟩
    · rcases get_set hpi with ⟨_, e, _⟩ | ⟨hne, hpi⟩
      · cases e
      · exact absurd rfl (hother i _ b' hne hpi rfl)
    · rcases get_set hpi with ⟨_, e, _⟩ | ⟨hne, hpi⟩
      · cases e
      · exact absurd rfl (hother i _ b' hne hpi rfl)
  refine ⟨_, w', hrun, _, hext, hinv, .d ?_⟩
  have hcell : ∀ (j : Nat) (x : D), ds[j]? = some x → ∃ u, arr[j]? = some u ∧ DenD F φ w u x := fun j x hx => by
    obtain ⟨u, h1, h2⟩ := hdd j x hx
    rw [List.getElem?_take] at h1
    split at h1
    · rw [Array.getElem?_toList] at h1; exact ⟨u, h1, h2⟩
    · cases h1
  have hdn : ds.length = n := by rw [hdl]; simp; omega
  refine .sl (fun i _ => (arr[i]?).getD undef) (by simp [hdn]) ⟨hcap, hcm⟩ (fun i e he' => ?_) (fun i j hi' hj => ?_) fun i e j x he' hx => ?_
  · rw [List.getElem?_map] at he'
    obtain ⟨y, _, rfl⟩ := Option.map_eq_some_iff.1 he'
    rfl
  · obtain ⟨x, hx⟩ := ofLtL (xs := ds) (i := i) (by omega)
    obtain ⟨u, h1, _⟩ := hcell i x hx
    obtain rfl : j = 0 := by omega
    refine ⟨hpr _, (cell_of w' b' _ _).2 ⟨arr, T, _, by rw [hheap, if_pos rfl], ?_⟩⟩
    simp [h1]
  · rw [List.getElem?_map] at he'
    obtain ⟨y, hy, rfl⟩ := Option.map_eq_some_iff.1 he'
    cases j with
    | zero =>
      simp at hx; subst hx
      obtain ⟨u, h1, h2⟩ := hcell i y hy
      rw [h1]
      exact h2.ext hext
    | succ j => simp at hx
end
end
end Go.Proofs.YtgfnpcmehnjopaaGreatDoor
