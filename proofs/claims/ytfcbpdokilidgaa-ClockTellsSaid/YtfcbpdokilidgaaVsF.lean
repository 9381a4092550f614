/- The pure step of an operation is what the model's operation does: indexes, slices, new memory. No program stands here. -/
import Derived.Test.YtfcbpdokilidgaaVsE
namespace Go.Proofs.Ytfcbpdokilidgaa
open Go Go.RowKit
set_option linter.unusedVariables false
set_option linter.unusedSimpArgs false
variable {F : Fr}

section
variable {P : Program} {F : Fr} {φ : List Pl} {w : World}

theorem sz_run {t : TypeId} {n : Nat} (h : szT P t = some n) : (sizeOf t).run P w = .ok n w := by
  unfold szT at h
  cases hq : P.info? t with
  | none => simp [hq] at h
  | some i => simp [sizeOf, typeInfo, hq]; simpa [hq] using h

theorem intOfV_inv {v : V} {n : Int} (h : intOfV v = some n) {r : Value} (hr : Den F φ w r v) : ∃ k, r = .int k n := by
  unfold intOfV at h
  split at h <;> cases h
  exact ⟨_, hr.sc.1⟩

theorem hsInv {r : Value} {k o off n : Nat} (h : Den F φ w r (.hs k o off n)) : ∃ b cap, r = .slice (some ⟨b, off, none⟩) n cap ∧ lv φ o ∧ (∀ b', φ[o]? = some (Pl.obj b') → b' = b) ∧ n ≤ cap := by
  cases h with
  | hs ho h hc => exact ⟨_, _, rfl, ho, h, hc⟩

theorem indexAtV_run {t : TypeId} {x i v : V} (h : indexAtV P t x i = some v) {r s : Value} (hr : Den F φ w r x) (hs : Den F φ w s i) :
    ∃ u, (Instr.indexAt t r s).run P w = .ok u w ∧ Den F φ w u v := by
  unfold indexAtV at h
  split at h
  · cases h
  · rename_i n hn
    obtain ⟨kk, rfl⟩ := intOfV_inv hn hs
    split at h
    · rename_i h0
      split at h
      · rename_i xv e hu
        have hu' : P.underlying t = some (.slice (P.elem t)) := by simp [Program.elem, hu]
        have he : P.elem t = e := by simp [Program.elem, hu]
        split at h
        · rename_i k hk
          split at h
          · rename_i k' o off len
            obtain ⟨b, cap, rfl, ho, hb, hcap⟩ := hsInv hr
            split at h
            · rename_i hc; cases h
              have hc2 : 0 ≤ n ∧ n < (len : Int) := ⟨h0, hc.2⟩
              refine ⟨_, by rw [run_indexAt_slice w t _ _ _ _ _ hu', if_pos hc2, he, sz_run hk, Result.andThen_ok, add_addr], .ptr ho hb⟩
            · cases h
          · rename_i x'' hnh
            split at h
            · rename_i es hes
              obtain ⟨c, hc, rfl⟩ := Option.map_eq_some_iff.1 h
              have hd := esOf_den hes hr
              have hlt := get_lt hc
              rcases hd.slInv with ⟨a0, rfl, rfl⟩ | ⟨cap, b, off, f, rfl, hcap, hkk, hce, hde⟩
              · simp at hlt
              · have hc2 : 0 ≤ n ∧ n < (es.length : Int) := ⟨h0, by omega⟩
                refine ⟨_, by rw [run_indexAt_slice w t _ _ _ _ _ hu', if_pos hc2, he, sz_run hk, Result.andThen_ok, add_addr], ?_⟩
                exact .ep (at_ := off + n.toNat * k) (f n.toNat) rfl (fun j hj => hce _ _ hlt (by rw [← hkk _ _ hc]; exact hj)) (fun j x hx => hde _ _ _ _ hc hx)
            · cases h
        · cases h
      · rename_i len e o off hu
        have hu' : P.underlying t = some (.array (P.arrayLen t) (P.elem t)) := by simp [Program.elem, Program.arrayLen, hu]
        have he : P.elem t = e := by simp [Program.elem, hu]
        have hlen : P.arrayLen t = len := by simp [Program.arrayLen, hu]
        split at h
        · rename_i k hk
          split at h
          · rename_i hc; cases h
            obtain ⟨b, rfl, ho, hb⟩ := hr.ptrInv
            have hc2 : 0 ≤ n ∧ n < (P.arrayLen t : Int) := ⟨h0, by rw [hlen]; exact hc⟩
            exact ⟨_, by rw [run_indexAt_array w t _ _ _ hu', if_pos hc2, he, sz_run hk, Result.andThen_ok, add_addr], .ptr ho hb⟩
          · cases h
        · cases h
      · rename_i len e c off hu
        have hu' : P.underlying t = some (.array (P.arrayLen t) (P.elem t)) := by simp [Program.elem, Program.arrayLen, hu]
        have he : P.elem t = e := by simp [Program.elem, hu]
        have hlen : P.arrayLen t = len := by simp [Program.arrayLen, hu]
        split at h
        · rename_i k hk
          split at h
          · rename_i hc; cases h
            obtain ⟨b, at_, f, rfl, hcc, hdd⟩ := hr.epInv
            have hc2 : 0 ≤ n ∧ n < (P.arrayLen t : Int) := ⟨h0, by rw [hlen]; exact hc⟩
            exact ⟨_, by rw [run_indexAt_array w t _ _ _ hu', if_pos hc2, he, sz_run hk, Result.andThen_ok, add_addr], .ep f (by omega) hcc hdd⟩
          · cases h
        · cases h
      · cases h
    · cases h

theorem indexV_run {t : TypeId} {x i v : V} (h : indexV P t x i = some v) {r s : Value} (hr : Den F φ w r x) (hs : Den F φ w s i) :
    ∃ u, (Instr.index t r s).run P w = .ok u w ∧ Den F φ w u v := by
  unfold indexV at h
  split at h
  · cases h
  · rename_i n hn
    obtain ⟨kk, rfl⟩ := intOfV_inv hn hs
    split at h
    · rename_i h0
      split at h
      · rename_i len e cs hu
        split at h
        · rename_i k hk
          split at h
          · rename_i hc
            obtain ⟨rs, rfl, h1, h2, h3⟩ := hr.aggInv
            obtain ⟨d, hd⟩ := Option.isSome_iff_exists.1 hc.2
            obtain ⟨u, hu1, hu2⟩ := partV_run h hd h1 h2 h3
            have hc2 : 0 ≤ n ∧ n < (len : Int) := ⟨h0, hc.1⟩
            exact ⟨u, by simp [Instr.index, asIntOf, run_underlying hu, hc2, sz_run hk, hu1], hu2⟩
          · cases h
        · cases h
      · rename_i s0 hu
        obtain ⟨rfl, _⟩ := hr.sc
        obtain ⟨b, hb, rfl⟩ := Option.map_eq_some_iff.1 h
        have hlt := get_lt hb
        have hb2 : s0[n.toNat]? = some b := by
          rw [ByteArray.toList_eq] at hb hlt
          have hsz : n.toNat < s0.size := by simpa using hlt
          rw [getElem?_pos s0 n.toNat hsz]
          simp at hb
          rw [Array.getElem?_eq_getElem (by exact hsz)] at hb
          simpa [ByteArray.getElem_eq_getElem_data] using hb
        exact ⟨_, by simp [Instr.index, asIntOf, run_underlying hu, h0, hb2], den_sc rfl⟩
      · cases h
    · cases h

theorem boundOf_run {o : Option V} {d : Nat} {l : Int} (h : boundOf o d = some l) {ro : Option Value} (hr : ∀ v, o = some v → ∃ r, ro = some r ∧ Den F φ w r v) (hn : o = none → ro = none) :
    (o = none ∧ ro = none ∧ l = d) ∨ ∃ k, ro = some (.int k l) ∧ o.isSome = true := by
  cases o with
  | none => simp only [boundOf] at h; cases h; exact .inl ⟨rfl, hn rfl, rfl⟩
  | some v =>
    simp only [boundOf] at h
    obtain ⟨r, rfl, hd⟩ := hr v rfl
    obtain ⟨k, rfl⟩ := intOfV_inv h hd
    exact .inr ⟨k, rfl, rfl⟩

theorem sliceD_den {k n cap l h m : Nat} {es : List (List D)} {a : Option Addr} (hd : DenD F φ w (.slice a n cap) (.sl k es)) (hn : es.length = n) (hlh : l ≤ h) (hh : h ≤ n) (hm : h ≤ m) (hmc : m ≤ cap) :
    DenD F φ w (.slice (if m = l then a else a.map (·.add (l * k))) (h - l) (m - l)) (.sl k ((es.take h).drop l)) := by
  have hlen : ((es.take h).drop l).length = h - l := by simp; omega
  rcases hd.slInv with ⟨a0, e1, rfl⟩ | ⟨cap', b, off, c, e1, hcap, hk, hc, hde⟩
  · cases e1
    obtain rfl : m = 0 := by omega
    obtain rfl : h = 0 := by omega
    obtain rfl : l = 0 := by omega
    exact .nil
  · cases e1
    have get : ∀ (i : Nat) (e : List D), ((es.take h).drop l)[i]? = some e → es[l + i]? = some e := fun i e he => by
      rw [List.getElem?_drop, List.getElem?_take] at he
      split at he
      · exact he
      · cases he
    by_cases hml : m = l
    · rw [if_pos hml]
      have h0 : h - l = 0 := by omega
      have hem : (es.take h).drop l = [] := List.eq_nil_of_length_eq_zero (by omega)
      rw [h0, hem]
      exact .sl (fun _ _ => undef) rfl (by omega) (fun i e he => by simp at he) (fun i j hi => absurd hi (by omega)) (fun i e j x he => by simp at he)
    · rw [if_neg hml]
      simp only [Option.map_some, add_addr]
      refine .sl (fun i j => c (l + i) j) hlen (by omega) (fun i e he => hk _ _ (get i e he)) (fun i j hi hj => ?_) (fun i e j x he hx => hde _ _ _ _ (get i e he) hx)
      have := hc (l + i) j (by omega) hj
      rwa [show off + (l + i) * k + j = off + l * k + i * k + j by rw [Nat.add_mul]; omega] at this

theorem run_bounds {isS : Bool} {len cap l h m : Nat} {lo hi mx : Option Value}
    (hm : (mx = none ∧ m = cap) ∨ ∃ k, mx = some (.int k m) ∧ m ≤ cap ∧ hi.isSome = true) (hh : (hi = none ∧ h = len) ∨ ∃ k, hi = some (.int k h)) (hl : (lo = none ∧ l = 0) ∨ ∃ k, lo = some (.int k l)) (h1 : l ≤ h) (h2 : h ≤ m) :
    (Instr.sliceBounds isS len cap lo hi mx).run P w = .ok (l, h, m) w := by
  have bd : ∀ (k : IntKind) (x y : Nat) (c : BoundsCode), x ≤ y → (Instr.sliceBound (.int k x) y c).run P w = .ok x w := fun k x y c hxy => by
    have : (0 : Int) ≤ (x : Int) ∧ (x : Int) ≤ (y : Int) := ⟨by omega, by omega⟩
    simp [Instr.sliceBound, asIntOf, this, hxy]
  unfold Instr.sliceBounds
  rcases hm with ⟨rfl, rfl⟩ | ⟨km, rfl, hmc, hsome⟩
  · rcases hh with ⟨rfl, rfl⟩ | ⟨kh, rfl⟩ <;> rcases hl with ⟨rfl, rfl⟩ | ⟨kl, rfl⟩ <;>
      simp only [Sem.run_bind, Sem.run_pure, Result.andThen_ok, bd _ _ _ _ h1, bd _ _ _ _ h2]
  · rcases hh with ⟨rfl, rfl⟩ | ⟨kh, rfl⟩
    · simp at hsome
    · rcases hl with ⟨rfl, rfl⟩ | ⟨kl, rfl⟩ <;>
        simp only [Sem.run_bind, Sem.run_pure, Result.andThen_ok, bd _ _ _ _ h1, bd _ _ _ _ h2, bd _ _ _ _ hmc]

/-- Optional operands. -/
def DenO (F : Fr) (φ : List Pl) (w : World) : Option Value → Option V → Prop
  | none, none => True
  | some r, some v => Den F φ w r v
  | _, _ => False

theorem bound_cases {o : Option V} {d : Nat} {l : Int} (h : boundOf o d = some l) {ro : Option Value} (hr : DenO F φ w ro o) : (ro = none ∧ o = none ∧ l = d) ∨ ∃ k, ro = some (.int k l) ∧ o.isSome = true := by
  cases o with
  | none => cases ro with
    | none => simp only [boundOf] at h; cases h; exact .inl ⟨rfl, rfl, rfl⟩
    | some r => exact hr.elim
  | some v => cases ro with
    | none => exact hr.elim
    | some r =>
      simp only [boundOf] at h
      obtain ⟨k, rfl⟩ := intOfV_inv h hr
      exact .inr ⟨k, rfl, rfl⟩

theorem sliceV_run {t : TypeId} {x v : V} {lo hi mx : Option V} (h : sliceV P t x lo hi mx = some v) {r : Value} {rlo rhi rmx : Option Value} (hr : Den F φ w r x)
    (h1 : DenO F φ w rlo lo) (h2 : DenO F φ w rhi hi) (h3 : DenO F φ w rmx mx) : ∃ u, (Instr.sliceAt t r rlo rhi rmx).run P w = .ok u w ∧ Den F φ w u v := by
  unfold sliceV at h
  split at h
  · rename_i hu
    split at h
    · rename_i s
      obtain ⟨rfl, _⟩ := hr.sc
      have hm : rmx = none := by cases rmx with
        | none => rfl
        | some r => exact h3.elim
      subst hm
      split at h
      · rename_i l hh hl hhh
        split at h
        · rename_i hc; cases h
          obtain ⟨c1, c2, c3⟩ := hc
          obtain ⟨l, rfl⟩ := Int.eq_ofNat_of_zero_le c1
          obtain ⟨hh, rfl⟩ := Int.eq_ofNat_of_zero_le (Int.le_trans c1 c2)
          have hb := run_bounds (P := P) (w := w) (isS := false) (len := s.size) (cap := s.size) (l := l) (h := hh) (m := s.size) (lo := rlo) (hi := rhi) (mx := none) (.inl ⟨rfl, rfl⟩)
            (by rcases bound_cases hhh h2 with ⟨a, _, b⟩ | ⟨k, a, _⟩
                · exact .inl ⟨a, by omega⟩
                · exact .inr ⟨k, a⟩)
            (by rcases bound_cases hl h1 with ⟨a, _, b⟩ | ⟨k, a, _⟩
                · exact .inl ⟨a, by omega⟩
                · exact .inr ⟨k, a⟩) (by omega) (by omega)
          exact ⟨_, by simp [Instr.sliceAt, run_underlying hu, Instr.slice, hb], den_sc rfl⟩
        · cases h
      · cases h
    · cases h
  · rename_i e hu
    split at h
    · rename_i k hk
      split at h
      · rename_i es hes
        have hd := esOf_den hes hr
        have hshape : ∃ a cap, r = .slice a es.length cap ∧ es.length ≤ cap := by
          rcases hd.slInv with ⟨a0, rfl, rfl⟩ | ⟨cap, b, off, c, rfl, hcap, _⟩
          · exact ⟨a0, 0, rfl, Nat.le_refl _⟩
          · exact ⟨_, _, rfl, hcap.1⟩
        obtain ⟨a, cap, rfl, hcap⟩ := hshape
        have fin : ∀ (l hh m : Nat), l ≤ hh → hh ≤ es.length → hh ≤ m → m ≤ cap → (Instr.sliceBounds true es.length cap rlo rhi rmx).run P w = .ok (l, hh, m) w →
            ∃ u, (Instr.sliceAt t (.slice a es.length cap) rlo rhi rmx).run P w = .ok u w ∧ Den F φ w u (.sl k ((es.take hh).drop l)) := fun l hh m a1 a2 a3 a4 hb =>
          ⟨_, by simp only [Instr.sliceAt, Sem.run_bind, run_underlying hu, Result.andThen_ok, Instr.slice, hb, sz_run hk, Sem.run_pure], .d (sliceD_den hd rfl a1 a2 a3 a4)⟩
        split at h
        · rename_i l hh hl hhh
          split at h
          · rename_i hc; cases h
            obtain ⟨c1, c2, c3⟩ := hc
            obtain ⟨l, rfl⟩ := Int.eq_ofNat_of_zero_le c1
            obtain ⟨hh, rfl⟩ := Int.eq_ofNat_of_zero_le (Int.le_trans c1 c2)
            have hm : rmx = none := by cases rmx with
              | none => rfl
              | some r => exact h3.elim
            subst hm
            exact fin l hh cap (by omega) (by omega) (by omega) (Nat.le_refl _) (run_bounds (.inl ⟨rfl, rfl⟩)
              (by rcases bound_cases hhh h2 with ⟨a, _, b⟩ | ⟨k, a, _⟩
                  · exact .inl ⟨a, by omega⟩
                  · exact .inr ⟨k, a⟩)
              (by rcases bound_cases hl h1 with ⟨a, _, b⟩ | ⟨k, a, _⟩
                  · exact .inl ⟨a, by omega⟩
                  · exact .inr ⟨k, a⟩) (by omega) (by omega))
          · cases h
        · rename_i l hh m hl hhh
          split at h
          · rename_i hc; cases h
            obtain ⟨c1, c2, c3, c4, c5⟩ := hc
            obtain ⟨l, rfl⟩ := Int.eq_ofNat_of_zero_le c1
            obtain ⟨hh, rfl⟩ := Int.eq_ofNat_of_zero_le (Int.le_trans c1 c2)
            cases rmx with
            | none => exact h3.elim
            | some rm =>
              obtain ⟨km, rfl⟩ := intOfV_inv c5 h3
              have hs : rhi.isSome = true := by
                rcases bound_cases hhh h2 with ⟨_, a, _⟩ | ⟨k, a, _⟩
                · rw [a] at c4; cases c4
                · rw [a]; rfl
              exact fin l hh hh (by omega) (by omega) (Nat.le_refl _) (by omega) (run_bounds (.inr ⟨km, rfl, by omega, hs⟩)
                (by rcases bound_cases hhh h2 with ⟨a, _, b⟩ | ⟨k, a, _⟩
                    · exact .inl ⟨a, by omega⟩
                    · exact .inr ⟨k, a⟩)
                (by rcases bound_cases hl h1 with ⟨a, _, b⟩ | ⟨k, a, _⟩
                    · exact .inl ⟨a, by omega⟩
                    · exact .inr ⟨k, a⟩) (by omega) (Nat.le_refl _))
          · cases h
        · cases h
      · cases h
    · cases h
  · cases h

theorem lenV_run {t ty : TypeId} {x v : V} (h : lenV P t x = some v) {r : Value} (hr : Den F φ w r x) : ∃ u, (Builtin.len_ #[t] ty #[r]).run P w = .ok u w ∧ Den F φ w u v := by
  unfold lenV at h
  split at h
  · rename_i hu
    split at h
    · cases h
      obtain ⟨rfl, _⟩ := hr.sc
      exact ⟨_, by simp [Builtin.len_, run_underlying hu, goInt], den_sc rfl⟩
    · cases h
  · rename_i n e hu
    cases h
    exact ⟨_, by simp [Builtin.len_, run_underlying hu, goInt], den_sc rfl⟩
  · rename_i e hu
    have key : ∀ {k : Nat} {es : List (List D)}, DenD F φ w r (.sl k es) → (Builtin.len_ #[t] ty #[r]).run P w = .ok (.int .i64 es.length) w := fun hd => by
      rcases hd.slInv with ⟨a0, rfl, rfl⟩ | ⟨cap, b, off, c, rfl, hcap, _⟩
      · simp [Builtin.len_, run_underlying hu, goInt]
      · simp [Builtin.len_, run_underlying hu, goInt]
    split at h
    · cases h; exact ⟨_, key (esOf_den (k := _) (v := .d (.sl _ _)) (if_pos rfl) hr), den_sc rfl⟩
    · cases h; exact ⟨_, key (esOf_den (k := _) (v := .own _ _ _) (if_pos rfl) hr), den_sc rfl⟩
    · cases h; exact ⟨_, key (esOf_den (k := _) (v := .full _ _) (if_pos rfl) hr), den_sc rfl⟩
    · cases h
      obtain ⟨rfl, _⟩ := hr.sc
      exact ⟨_, by simp [Builtin.len_, run_underlying hu, goInt], den_sc rfl⟩
    · cases h
      obtain ⟨b, cap, rfl, _⟩ := hsInv hr
      exact ⟨_, by simp [Builtin.len_, run_underlying hu, goInt], den_sc rfl⟩
    · cases h
  · cases h
end
end Go.Proofs.Ytfcbpdokilidgaa
