/- Parts of the proofs, joined: VsI. -/
import Derived.Test.YtgfnpcmehnjopaaGreatDoorT4
namespace Go.Proofs.YtgfnpcmehnjopaaGreatDoor
open Go Go.RowKit
set_option linter.unusedVariables false
set_option linter.unusedSimpArgs false
variable {F : Fr}
theorem resOf_inv {h h' : List Ho} {o : Option V} {v : V} (e : resOf h o = .val v h') : o = some v ∧ h' = h := by
  unfold resOf at e
  split at e
  · cases e; exact ⟨rfl, rfl⟩
  · cases e
theorem resH_inv {o : Option (V × List Ho)} {v : V} {h' : List Ho} (e : resH o = .val v h') : o = some (v, h') := by
  unfold resH at e
  split at e
  · cases e; rfl
  · cases e
theorem resH_call {o : Option (V × List Ho)} {f : Nat} {vs : List V} (e : resH o = .call f vs) : False := by
  unfold resH at e
  split at e <;> cases e
theorem resOf_call {h : List Ho} {o : Option V} {f : Nat} {vs : List V} (e : resOf h o = .call f vs) : False := by
  unfold resOf at e
  split at e <;> cases e
section
variable {P : Program} {M : TypeId → Bool} {φ : List Pl} {w : World}
theorem evOpt_den {a : Act} {tm : List V} (ht : RelT F φ w a.tmps tm) {x : Option Operand} {v : Option V} (h : evOpt tm x = some v) : DenO F φ w (x.map a.eval) v := by
  cases x with
  | none => simp only [evOpt] at h; cases h; trivial
  | some x =>
    simp only [evOpt] at h
    obtain ⟨u, hu, rfl⟩ := Option.map_eq_some_iff.1 h
    exact evV_den ht hu
theorem evParts_den {a : Act} {tm : List V} (ht : RelT F φ w a.tmps tm) : ∀ {xs : List (Nat × Operand)} {vs : List (Nat × V)}, evParts tm xs = some vs →
    (xs.map fun (i, x) => (i, a.eval x)).map (·.1) = vs.map (·.1) ∧ DenL F φ w ((xs.map fun (i, x) => (i, a.eval x)).map (·.2)) (vs.map (·.2))
  | [], vs, h => by simp only [evParts] at h; cases h; exact ⟨rfl, .nil⟩
  | (i, x) :: r, vs, h => by
    unfold evParts at h
    split at h
    · rename_i v vs' h1 h2
      cases h
      obtain ⟨a1, a2⟩ := evParts_den ht h2
      exact ⟨by simp only [List.map_cons, a1], .cons (evV_den ht h1) a2⟩
    · cases h
theorem Gd.val1A {h : List Ho} (hi : Inv F φ w h) {v : V} {s : Sem Value} (hs : ∃ u, s.run P w = .ok u w ∧ Den F φ w u v) : Gd P F φ w v h ((s.run P w).andThen fun a w' => .ok (.value a) w') := by
  obtain ⟨u, h1, h2⟩ := hs
  simp only [h1, Result.andThen_ok]
  exact Gd.same hi h2
theorem Gd.val2A {h' : List Ho} {v : V} {s : Sem Value} (hs : ∃ u w', s.run P w = .ok u w' ∧ ∃ φ', Ext φ w φ' w' ∧ Inv F φ' w' h' ∧ Den F φ' w' u v) : Gd P F φ w v h' ((s.run P w).andThen fun a w' => .ok (.value a) w') := by
  obtain ⟨u, w', h1, φ', h2, h3, h4⟩ := hs
  simp only [h1, Result.andThen_ok]
  exact ⟨φ', h2, h3, h4⟩
theorem vrun (s : Sem Value) : (do pure (.value (← s)) : Sem Next).run P w = (s.run P w).andThen fun a w' => .ok (.value a) w' := by
  simp only [Sem.run_bind, Sem.run_pure]
theorem args_two {α β : Type} {f : α → β} {xs : Array α} {a b : α} (h : xs.toList = [a, b]) : xs.map f = #[f a, f b] := by
  apply Array.ext'; simp [h]
theorem args_one {α β : Type} {f : α → β} {xs : Array α} {a : α} (h : xs.toList = [a]) : xs.map f = #[f a] := by
  apply Array.ext'; simp [h]
theorem arr_two {α : Type} {xs : Array α} {a b : α} (h : xs.toList = [a, b]) : xs = #[a, b] := by
  apply Array.ext'; simp [h]
theorem arr_one {α : Type} {xs : Array α} {a : α} (h : xs.toList = [a]) : xs = #[a] := by
  apply Array.ext'; simp [h]
theorem evArgs_two {tm : List V} {xs : List Operand} {a b : V} (h : evArgs tm xs = some [a, b]) : ∃ x y, xs = [x, y] ∧ evV tm x = some a ∧ evV tm y = some b := by
  cases xs with
  | nil => simp [evArgs] at h
  | cons x xs =>
    simp only [evArgs] at h
    split at h
    · rename_i v vs h1 h2
      cases h
      cases xs with
      | nil => simp [evArgs] at h2
      | cons y xs =>
        simp only [evArgs] at h2
        split at h2
        · rename_i v vs h3 h4
          cases h2
          cases xs with
          | nil => exact ⟨x, y, rfl, h1, h3⟩
          | cons z xs =>
            simp only [evArgs] at h4
            split at h4 <;> cases h4
        · cases h2
    · cases h
theorem evArgs_one {tm : List V} {xs : List Operand} {a : V} (h : evArgs tm xs = some [a]) : ∃ x, xs = [x] ∧ evV tm x = some a := by
  cases xs with
  | nil => simp [evArgs] at h
  | cons x xs =>
    simp only [evArgs] at h
    split at h
    · rename_i v vs h1 h2
      cases h
      cases xs with
      | nil => exact ⟨x, rfl, h1⟩
      | cons y xs =>
        simp only [evArgs] at h2
        split at h2 <;> cases h2
    · cases h
set_option maxHeartbeats 1000000 in
theorem callV_val {a : Act} {tm : List V} {h h' : List Ho} (hi : Inv F φ w h) {rn : Nat} (hrn : φ[rn]? = some .yet) (ht : RelT F φ w a.tmps tm) {c : Call} {ty : TypeId} {v : V} (e : callV P M tm h rn c = .val v h') :
    Gd P F φ w v h' ((do let d ← resolve a.eval c ty; invoke d.target d.args : Sem Next).run P w) := by
  unfold callV at e
  split at e
  · split at e <;> cases e
  · rename_i hc
    split at e
    · rename_i st xt s x h1 h2
      split at e
      · rename_i hM
        split at e
        · rename_i v1 h1' ha
          cases e
          obtain ⟨x1, x2, hx, e1, e2⟩ := evArgs_two h2
          have := appendH_gd (ty := ty) hi hrn ha (evV_den ht e1) (evV_den ht e2)
          simp only [resolve, hc, Sem.run_bind, Sem.run_pure, Result.andThen_ok, invoke, builtin, args_two (f := a.eval) hx, arr_two h1]
          exact Gd.val2A this
        · cases e
      split at e
      · rename_i v1 h1' ha
        cases e
        obtain ⟨x1, x2, hx, e1, e2⟩ := evArgs_two h2
        have := appendV_gd (ty := ty) hi hrn ha (evV_den ht e1) (evV_den ht e2)
        simp only [resolve, hc, Sem.run_bind, Sem.run_pure, Result.andThen_ok, invoke, builtin, args_two (f := a.eval) hx, arr_two h1]
        exact Gd.val2A this
      · cases e
    · cases e
  · rename_i hc
    split at e
    · rename_i dt xt d x h1 h2
      split at e
      · rename_i v1 h1' ha
        cases e
        obtain ⟨x1, x2, hx, e1, e2⟩ := evArgs_two h2
        have := copyV_gd (ty := ty) hi ha (evV_den ht e1) (evV_den ht e2)
        simp only [resolve, hc, Sem.run_bind, Sem.run_pure, Result.andThen_ok, invoke, builtin, args_two (f := a.eval) hx, arr_two h1]
        exact Gd.val2A this
      · cases e
    · cases e
  · rename_i hc
    split at e
    · rename_i t t2 x k h1 h2
      obtain ⟨x1, x2, hx, e1, e2⟩ := evArgs_two h2
      have := deleteV_run (P := P) (t2 := t2) (ty := ty) hi (resH_inv e) (evV_den ht e1) (evV_den ht e2)
      simp only [resolve, hc, Sem.run_bind, Sem.run_pure, Result.andThen_ok, invoke, builtin, args_two (f := a.eval) hx, arr_two h1]
      exact Gd.val2A this
    · cases e
  · rename_i hc
    split at e
    · rename_i t x h1 h2
      obtain ⟨x1, hx, e1⟩ := evArgs_one h2
      split at e
      · rename_i o
        split at e
        · rename_i es hmt hes
          cases e
          obtain ⟨b, z, ents, hb, hp, hblk, hsz, _⟩ := map_obj hi (evV_den ht e1) hes
          simp only [resolve, hc, Sem.run_bind, Sem.run_pure, Result.andThen_ok, invoke, builtin, args_one (f := a.eval) hx, arr_one h1, hb]
          unfold isMapT at hmt
          split at hmt
          · rename_i kt et hu
            exact Gd.val1A hi ⟨_, by simp [Builtin.len_, run_underlying hu, goInt, MapKept.run_getObj_map hblk]; rfl, by rw [← hsz]; exact den_sc rfl⟩
          · cases hmt
        · cases e
      obtain ⟨h3, rfl⟩ := resOf_inv e
      have := lenV_run (P := P) (ty := ty) h3 (evV_den ht e1)
      simp only [resolve, hc, Sem.run_bind, Sem.run_pure, Result.andThen_ok, invoke, builtin, args_one (f := a.eval) hx, arr_one h1]
      exact Gd.val1A hi this
    · cases e
  · rename_i hc
    split at e
    · rename_i k x k' y h2
      cases e
      obtain ⟨x1, x2, hx, e1, e2⟩ := evArgs_two h2
      have r1 := (evV_den ht e1).sc.1
      have r2 := (evV_den ht e2).sc.1
      simp only [resolve, hc, Sem.run_bind, Sem.run_pure, Result.andThen_ok, invoke, builtin, args_two (f := a.eval) hx, r1, r2]
      exact Gd.val1A hi ⟨.int k (if y < x then y else x), by simp [Builtin.min_, Builtin.min2], den_sc rfl⟩
    · cases e
  · rename_i hc
    split at e
    · rename_i k x k' y h2
      cases e
      obtain ⟨x1, x2, hx, e1, e2⟩ := evArgs_two h2
      have r1 := (evV_den ht e1).sc.1
      have r2 := (evV_den ht e2).sc.1
      simp only [resolve, hc, Sem.run_bind, Sem.run_pure, Result.andThen_ok, invoke, builtin, args_two (f := a.eval) hx, r1, r2]
      exact Gd.val1A hi ⟨.int k (if y > x then y else x), by simp [Builtin.max_, Builtin.max2], den_sc rfl⟩
    · cases e
  · cases e
set_option maxHeartbeats 4000000 in
theorem opV_val {a : Act} {tm : List V} {h h' : List Ho} (hi : Inv F φ w h) {rn : Nat} (hrn : φ[rn]? = some .yet) (ht : RelT F φ w a.tmps tm) {o : Oper} {v : V} (e : opV P M tm h rn o = .val v h') :
    Gd P F φ w v h' ((execOp a.eval o).run P w) := by
  unfold opV at e
  split at e
  · rename_i x ho
    obtain ⟨h1, rfl⟩ := resOf_inv e
    unfold execOp; simp only [ho, Sem.run_pure]
    exact Gd.same hi (evV_den ht h1)
  · rename_i x ho
    obtain ⟨h1, rfl⟩ := resOf_inv e
    unfold execOp; simp only [ho, Sem.run_pure]
    exact Gd.same hi (evV_den ht h1)
  · rename_i c x y ho
    split at e
    · rename_i t va vb h1 h2 h3
      cases e
      have hc := (evV_den ht h1).sc.1
      unfold execOp; simp only [ho, hc, asBool, Sem.run_bind, Sem.run_pure, Result.andThen_ok]
      cases t
      · exact Gd.same hi (evV_den ht h3)
      · exact Gd.same hi (evV_den ht h2)
    · cases e
  · rename_i T ho
    split at e
    · rename_i cs hz
      cases e
      simp only [execOp, ho, vrun]
      exact Gd.val2A (alloc_gd hi hrn T hz)
    · cases e
  · rename_i T x ho
    split at e
    · rename_i v1 h1
      split at e
      · rename_i hone
        cases e
        simp only [execOp, ho, vrun]
        exact Gd.val2A (box_gd hi hrn T (evV_den ht h1) hone)
      · cases e
    · cases e
  · rename_i t parts ho
    split at e
    · rename_i z vs hz hp hk
      obtain ⟨h1, rfl⟩ := resOf_inv e
      obtain ⟨out, hout, rfl⟩ := Option.map_eq_some_iff.1 h1
      obtain ⟨a1, a2⟩ := evParts_den ht hp
      simp only [execOp, ho, vrun]
      simp only [shapeT, Bool.or_eq_true] at hk
      exact Gd.val1A hi (build_run (rps := parts.map fun (i, x) => (i, a.eval x)) hz hout (by rw [Array.toList_map]; exact a1) (by rw [Array.toList_map]; exact a2) hk)
    · cases e
  · rename_i t len parts ho
    split at e
    · rename_i vs hp
      split at e
      · split at e
        · rename_i v1 ob hb
          cases e
          obtain ⟨a1, a2⟩ := evParts_den ht hp
          simp only [execOp, ho, vrun]
          exact Gd.val2A (buildSliceH_gd hi hrn (rps := parts.map fun (i, x) => (i, a.eval x)) hb (by rw [Array.toList_map]; exact a1) (by rw [Array.toList_map]; exact a2))
        · cases e
      obtain ⟨h1, rfl⟩ := resOf_inv e
      obtain ⟨a1, a2⟩ := evParts_den ht hp
      simp only [execOp, ho, vrun]
      exact Gd.val2A (buildSlice_gd hi (rps := parts.map fun (i, x) => (i, a.eval x)) h1 (by rw [Array.toList_map]; exact a1) (by rw [Array.toList_map]; exact a2))
    · cases e
  · rename_i t p ho
    split at e
    · rename_i pv h1 hk
      obtain ⟨h2, rfl⟩ := resOf_inv e
      obtain ⟨d, hd⟩ := Option.isSome_iff_exists.1 hk
      simp only [execOp, ho, vrun]
      exact Gd.val1A hi (loadV_run hi h2 hd (evV_den ht h1))
    · cases e
  · rename_i t p x ho
    split at e
    · rename_i pv v1 h1 h2
      split at e
      · rename_i h3 hs
        cases e
        obtain ⟨w', hr, he, hi'⟩ := storeV_run (P := P) hi hs (evV_den ht h1) (evV_den ht h2)
        unfold execOp; simp only [ho, Sem.run_bind, hr, Result.andThen_ok, Sem.run_pure]
        exact ⟨rfl, φ, he, hi'⟩
      · cases e
    · cases e
  · rename_i x ho
    split at e
    · rename_i o1 off h1
      cases e
      obtain ⟨b, hb, _⟩ := (evV_den ht h1).ptrInv
      have := evV_den ht h1
      rw [hb] at this
      unfold execOp; simp only [ho, hb, Sem.run_pure]
      exact Gd.same hi this
    · rename_i c off h1
      cases e
      obtain ⟨b, at_, f, hb, _⟩ := (evV_den ht h1).epInv
      have := evV_den ht h1
      rw [hb] at this
      unfold execOp; simp only [ho, hb, Sem.run_pure]
      exact Gd.same hi this
    · rename_i f cap h1
      cases e
      obtain ⟨rs, hb, _⟩ := (evV_den ht h1).fnInv
      have := evV_den ht h1
      rw [hb] at this
      unfold execOp; simp only [ho, hb, Sem.run_pure]
      exact Gd.same hi this
    · cases e
  · rename_i op t x y yt ho
    split at e
    · rename_i va vb h1 h2
      obtain ⟨h3, rfl⟩ := resOf_inv e
      simp only [execOp, ho, vrun]
      exact Gd.val1A hi (binV_run h3 (evV_den ht h1) (evV_den ht h2) x y)
    · cases e
  · rename_i op t x ho
    split at e
    · rename_i va h1
      obtain ⟨h3, rfl⟩ := resOf_inv e
      simp only [execOp, ho, vrun]
      exact Gd.val1A hi (unV_run h3 (evV_den ht h1))
    · cases e
  · rename_i src dst x ho
    split at e
    · rename_i g k i off n h1
      have h3 := resH_inv e
      simp only [execOp, ho, vrun]
      exact Gd.val2A (convHV_gd hi h3 (evV_den ht h1))
    · rename_i va _ h1
      obtain ⟨h3, rfl⟩ := resOf_inv e
      simp only [execOp, ho, vrun]
      exact Gd.val2A (convV_gd hi h3 (evV_den ht h1))
    · cases e
  · rename_i f first cap ho
    split at e
    · rename_i vs h1 h2
      cases e
      have hf : first = #[] := Array.eq_empty_of_size_eq_zero (by rw [← Array.length_toList, h1]; rfl)
      subst hf
      have hd := evArgs_den ht h2
      simp only [execOp, ho, vrun]
      refine Gd.val1A hi ⟨.func (.func f) #[] (cap.map a.eval), by simp only [Instr.makeFunc, Array.map_empty, Sem.run_pure], ?_⟩
      exact .fn (by have := hd.length; simpa using this) fun i r v hr hv => hd.get i r v (by simpa using hr) hv
    · rename_i x h1 h2
      split at e
      · rename_i v hx
        cases e
        have hf : first = #[x] := by rw [← Array.toList_inj, h1]
        subst hf
        have hd := (evArgs_den ht h2).length
        have hcap : cap = #[] := Array.eq_empty_of_size_eq_zero (by simpa using hd)
        subst hcap
        simp only [execOp, ho, vrun]
        refine Gd.val1A hi ⟨.func (.func f) #[a.eval x] #[], by simp only [Instr.makeFunc, List.map_toArray, List.map_cons, List.map_nil, Array.map_empty, Sem.run_pure], ?_⟩
        refine .fnb rfl fun i r u hr hv => ?_
        cases i with
        | zero => simp at hr hv; subst hr hv; exact evV_den ht hx
        | succ i => simp at hv
      · cases e
    · cases e
  · rename_i t l c ho
    split at e
    · rename_i va vb e1 e2
      split at e
      · split at e
        · rename_i v1 ob h1
          cases e
          simp only [execOp, ho, vrun]
          cases ha : intOfV va with
          | none => rw [ha] at h1; simp [makeSliceH] at h1
          | some n =>
            cases hb : intOfV vb with
            | none => rw [hb] at h1; simp [makeSliceH] at h1
            | some m =>
              rw [ha, hb] at h1
              obtain ⟨kl, hkl⟩ := intOfV_inv ha (evV_den ht e1)
              obtain ⟨kc, hkc⟩ := intOfV_inv hb (evV_den ht e2)
              rw [hkl, hkc]
              exact Gd.val2A (makeSliceH_gd hi hrn h1)
        · cases e
      obtain ⟨h1, rfl⟩ := resOf_inv e
      simp only [execOp, ho, vrun]
      cases ha : intOfV va with
      | none => rw [ha] at h1; simp [makeSliceV] at h1
      | some n =>
        cases hb : intOfV vb with
        | none => rw [hb] at h1; simp [makeSliceV] at h1
        | some m =>
          rw [ha, hb] at h1
          obtain ⟨kl, hkl⟩ := intOfV_inv ha (evV_den ht e1)
          obtain ⟨kc, hkc⟩ := intOfV_inv hb (evV_den ht e2)
          rw [hkl, hkc]
          exact Gd.val2A (makeSlice_gd hi h1)
    · cases e
  · rename_i t ho
    cases e
    simp only [execOp, ho, vrun, Option.map_none]
    exact Gd.val2A (makeMap_gd hi hrn t)
  · rename_i t x k ok ho
    split at e
    · rename_i va vb e1 e2
      obtain ⟨h1, rfl⟩ := resOf_inv e
      simp only [execOp, ho, vrun]
      exact Gd.val1A hi (lookupV_run hi h1 (evV_den ht e1) (evV_den ht e2))
    · cases e
  · rename_i t x k v ho
    split at e
    · rename_i va vb vc e1 e2 e3
      obtain ⟨rfl, w', hr, he, hi'⟩ := mapUpdateV_run (P := P) hi (resH_inv e) (evV_den ht e1) (evV_den ht e2) (evV_den ht e3)
      unfold execOp; simp only [ho, Sem.run_bind, hr, Result.andThen_ok, Sem.run_pure]
      exact ⟨rfl, φ, he, hi'⟩
    · cases e
  · rename_i t x k ho
    split at e
    · rename_i va vb e1 e2
      simp only [execOp, ho, vrun]
      exact Gd.val2A (mapEntryV_run (P := P) hi (resH_inv e) (evV_den ht e1) (evV_den ht e2))
    · cases e
  · rename_i t x s v ho
    split at e
    · rename_i va vb vc e1 e2 e3
      obtain ⟨rfl, w', hr, he, hi'⟩ := entryStoreV_run (P := P) (t := t) hi (resH_inv e) (evV_den ht e1) (evV_den ht e2) (evV_den ht e3)
      unfold execOp; simp only [ho, Sem.run_bind, hr, Result.andThen_ok, Sem.run_pure]
      exact ⟨rfl, φ, he, hi'⟩
    · cases e
  · rename_i t x lo hi' mx ho
    split at e
    · rename_i v1 l1 h1 m1 e1 e2 e3 e4
      obtain ⟨h3, rfl⟩ := resOf_inv e
      simp only [execOp, ho, vrun]
      exact Gd.val1A hi (sliceV_run h3 (evV_den ht e1) (evOpt_den ht e2) (evOpt_den ht e3) (evOpt_den ht e4))
    · cases e
  · rename_i s x f ho
    split at e
    · rename_i o1 off fo t1 h1 h2
      cases e
      obtain ⟨b, hb, hlt, hh⟩ := (evV_den ht h1).ptrInv
      simp only [execOp, ho, hb, vrun]
      exact Gd.val1A hi ⟨_, fieldAddr_run h2 b off, .ptr hlt hh⟩
    · rename_i c off fo t1 h1 h2
      cases e
      obtain ⟨b, at_, f, hb, hc, hd⟩ := (evV_den ht h1).epInv
      simp only [execOp, ho, hb, vrun]
      exact Gd.val1A hi ⟨_, fieldAddr_run h2 b (at_ + off), .ep f (by omega) hc hd⟩
    · cases e
  · rename_i s x f ho
    split at e
    · rename_i cs fo t1 h1 h2
      split at e
      · rename_i hk
        obtain ⟨h3, rfl⟩ := resOf_inv e
        obtain ⟨rs, hb, r1, r2, r3⟩ := (evV_den ht h1).aggInv
        obtain ⟨fs, fx, n, hu, hx, rfl, rfl, _, _⟩ := fieldOf_spec h2
        obtain ⟨d, hd⟩ := Option.isSome_iff_exists.1 hk
        obtain ⟨u, hu1, hu2⟩ := partV_run (P := P) h3 hd r1 r2 r3
        simp only [execOp, ho, hb, vrun]
        exact Gd.val1A hi ⟨u, by simp only [Instr.field, Sem.run_bind, run_underlying hu, Result.andThen_ok, hx, asAgg, Sem.run_pure, hu1], hu2⟩
      · cases e
    · cases e
  · rename_i t x i ho
    split at e
    · rename_i va vb h1 h2
      obtain ⟨h3, rfl⟩ := resOf_inv e
      simp only [execOp, ho, vrun]
      exact Gd.val1A hi (indexAtV_run h3 (evV_den ht h1) (evV_den ht h2))
    · cases e
  · rename_i t x i ho
    split at e
    · rename_i va vb h1 h2
      obtain ⟨h3, rfl⟩ := resOf_inv e
      simp only [execOp, ho, vrun]
      exact Gd.val1A hi (indexV_run h3 (evV_den ht h1) (evV_den ht h2))
    · cases e
  · rename_i x i ho
    split at e
    · rename_i vs h1
      obtain ⟨h3, rfl⟩ := resOf_inv e
      obtain ⟨rs, hb, r1, r2⟩ := (evV_den ht h1).tupInv
      obtain ⟨r, hr⟩ := ofLt (xs := rs) (i := i) (by rw [r1]; exact get_lt h3)
      simp only [execOp, ho, hb, vrun]
      exact Gd.val1A hi ⟨r, by simp only [Instr.extract, hr, Sem.run_pure], r2 i r v hr h3⟩
    · cases e
  · rename_i c ho
    simp only [execOp, ho, vrun]
    exact callV_val hi hrn ht e
  · cases e
def Enters (P : Program) (f : FuncId) : Prop := ∀ (args : Array Value) (w : World), (callFunc f args).run P w = .ok (.enter f args) w
theorem opV_call {a : Act} {tm : List V} {h : List Ho} {rn : Nat} (ht : RelT F φ w a.tmps tm) {o : Oper} {f : Nat} {vs : List V} (e : opV P M tm h rn o = .call f vs) (hf : Enters P f) :
    ∃ args : Array Value, (execOp a.eval o).run P w = .ok (.enter f args) w ∧ DenL F φ w args.toList vs := by
  unfold opV at e
  split at e
  all_goals try (first | exact (resOf_call e).elim | exact (resH_call e).elim | (split at e <;> (first | exact (resOf_call e).elim | exact (resH_call e).elim | (cases e; done) | (split at e <;> (first | exact (resOf_call e).elim | exact (resH_call e).elim | (cases e; done) | (split at e <;> (first | exact (resOf_call e).elim | exact (resH_call e).elim | (cases e; done))))))) | (cases e; done))
  rename_i c ho
  unfold callV at e
  split at e
  · rename_i fo hc
    split at e
    · rename_i g cap vs' h1 h2
      cases e
      obtain ⟨rs, hb, r1, r2⟩ := (evV_den ht h1).fnInv
      have hd := evArgs_den ht h2
      refine ⟨c.args.map a.eval ++ rs, ?_, ?_⟩
      · unfold execOp
        simp only [ho, resolve, hc, hb, Deferred.ofValue, Sem.run_bind, Sem.run_pure, Result.andThen_ok, invoke, Array.empty_append]
        exact hf _ _
      · simp only [Array.toList_append, Array.toList_map]
        exact hd.append (.of_get (by simpa using r1) fun i r v hr hv => r2 i r v (by simpa using hr) hv)
    · rename_i g first vs' h1 h2
      cases e
      obtain ⟨rs, hb, r1, r2⟩ := (evV_den ht h1).fnbInv
      have hd := evArgs_den ht h2
      refine ⟨rs ++ c.args.map a.eval, ?_, ?_⟩
      · unfold execOp
        simp only [ho, resolve, hc, hb, Deferred.ofValue, Sem.run_bind, Sem.run_pure, Result.andThen_ok, invoke, Array.append_empty]
        exact hf _ _
      · simp only [Array.toList_append, Array.toList_map]
        exact DenL.append (.of_get (by simpa using r1) fun i r v hr hv => r2 i r v (by simpa using hr) hv) hd
    · cases e
  all_goals (repeat' (first | exact (resOf_call e).elim | exact (resH_call e).elim | (cases e; done) | split at e))
end
end Go.Proofs.YtgfnpcmehnjopaaGreatDoor
