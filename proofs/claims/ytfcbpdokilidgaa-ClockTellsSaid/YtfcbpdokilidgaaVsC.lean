/- The pure step of an operation is what the model's operation does: operands, scalars, comparisons. No program stands here. -/
import Derived.Test.YtfcbpdokilidgaaVsB
import Derived.ChangeKeysEq
namespace Go.Proofs.Ytfcbpdokilidgaa
open Go Go.RowKit
set_option linter.unusedVariables false
set_option linter.unusedSimpArgs false
variable {F : Fr}

def RelT (F : Fr) (φ : List Pl) (w : World) (tmps : Array Value) (tm : List V) : Prop :=
  tmps.size = tm.length ∧ ∀ (t : Nat) (r : Value) (v : V), tmps[t]? = some r → tm[t]? = some v → Den F φ w r v

inductive DenL (F : Fr) (φ : List Pl) (w : World) : List Value → List V → Prop
  | nil : DenL F φ w [] []
  | cons {r : Value} {v : V} {rs : List Value} {vs : List V} (h : Den F φ w r v) (hs : DenL F φ w rs vs) : DenL F φ w (r :: rs) (v :: vs)

theorem DenL.length {φ : List Pl} {w : World} {rs : List Value} {vs : List V} (h : DenL F φ w rs vs) : rs.length = vs.length := by
  induction h with
  | nil => rfl
  | cons _ _ ih => simp [ih]
theorem DenL.get {φ : List Pl} {w : World} {rs : List Value} {vs : List V} (h : DenL F φ w rs vs) : ∀ (i : Nat) (r : Value) (v : V), rs[i]? = some r → vs[i]? = some v → Den F φ w r v := by
  induction h with
  | nil => intro i r v h; simp at h
  | cons hd _ ih =>
    intro i r v h1 h2
    cases i with
    | zero => simp at h1 h2; subst h1 h2; exact hd
    | succ i => simp at h1 h2; exact ih i r v h1 h2
theorem DenL.of_get {φ : List Pl} {w : World} : ∀ {rs : List Value} {vs : List V}, rs.length = vs.length → (∀ (i : Nat) (r : Value) (v : V), rs[i]? = some r → vs[i]? = some v → Den F φ w r v) → DenL F φ w rs vs
  | [], [], _, _ => .nil
  | r :: rs, v :: vs, hl, h => .cons (h 0 r v rfl rfl) (.of_get (by simpa using hl) fun i r v h1 h2 => h (i + 1) r v (by simpa using h1) (by simpa using h2))
  | [], _ :: _, hl, _ => by simp at hl
  | _ :: _, [], hl, _ => by simp at hl
theorem DenL.ext {φ φ' : List Pl} {w w' : World} (he : Ext φ w φ' w') {rs : List Value} {vs : List V} (h : DenL F φ w rs vs) : DenL F φ' w' rs vs := by
  induction h with
  | nil => exact .nil
  | cons hd _ ih => exact .cons (hd.ext he) ih
theorem DenL.append {φ : List Pl} {w : World} {rs rs' : List Value} {vs vs' : List V} (h : DenL F φ w rs vs) (h' : DenL F φ w rs' vs') : DenL F φ w (rs ++ rs') (vs ++ vs') := by
  induction h with
  | nil => exact h'
  | cons hd _ ih => exact .cons hd ih

theorem flat_one {x : Value} (h : flat x = true) : x.oneCell' = true := by
  cases x <;> first | rfl | simp [flat] at h
theorem DenD.one {φ : List Pl} {w : World} {r : Value} {x : D} (h : DenD F φ w r x) : r.oneCell' = true := by
  cases h with
  | sc h => exact flat_one h
  | nil => rfl
  | sl => rfl
theorem Den.one {φ : List Pl} {w : World} {r : Value} {v : V} (h : Den F φ w r v) (h1 : isOne v = true) : r.oneCell' = true := by
  cases h with
  | d h => exact h.one
  | agg => simp [isOne] at h1
  | tup => simp [isOne] at h1
  | _ => rfl
theorem Den.sc {φ : List Pl} {w : World} {r x : Value} (h : Den F φ w r (.d (.sc x))) : r = x ∧ flat x = true := by
  cases h with
  | d h => cases h with
    | sc h => exact ⟨rfl, h⟩
theorem den_sc {φ : List Pl} {w : World} {x : Value} (h : flat x = true) : Den F φ w x (.d (.sc x)) := .d (.sc h)
theorem den_undef {φ : List Pl} {w : World} : Den F φ w undef .undef := .tup rfl fun i r v h => by simp at h

theorem constV_den {φ : List Pl} {w : World} {x : Value} {v : V} (h : constV x = some v) : Den F φ w x v := by
  unfold constV at h
  split at h
  · rename_i cs
    split at h
    · rename_i hf
      cases h
      have hf' : ∀ (i : Nat) (r : Value), cs[i]? = some r → flat r = true := fun i r hr => Array.all_eq_true_iff_forall_mem.1 hf r (Array.mem_of_getElem? hr)
      refine .agg (by simp) (fun i r hr => flat_one (hf' i r hr)) fun i r v hr hv => ?_
      rw [List.getElem?_map, Array.getElem?_toList, hr] at hv
      simp only [Option.map_some, Option.some.injEq] at hv
      subst hv
      exact den_sc (hf' i r hr)
    · cases h
  · rename_i vs
    split at h
    · rename_i hv
      cases h
      obtain rfl : vs = #[] := Array.eq_empty_of_size_eq_zero hv
      exact den_undef
    · cases h
  · split at h
    · cases h; exact den_sc ‹_›
    · cases h

theorem evV_den {φ : List Pl} {w : World} {a : Act} {tm : List V} (ht : RelT F φ w a.tmps tm) {x : Operand} {v : V} (h : evV tm x = some v) : Den F φ w (a.eval x) v := by
  cases x with
  | tmp t =>
    have hl := get_lt h
    have hs : t < a.tmps.size := by rw [ht.1]; exact hl
    have hr : a.tmps[t]? = some a.tmps[t] := Array.getElem?_eq_getElem hs
    have : a.eval (.tmp t) = a.tmps[t] := by simp [Act.eval, Array.getD, hs]
    rw [this]
    exact ht.2 t _ v hr h
  | const x => exact constV_den h
  | global g => cases h
  | func f => cases h; exact .fn rfl fun i r v h => by simp at h

theorem evArgs_den {φ : List Pl} {w : World} {a : Act} {tm : List V} (ht : RelT F φ w a.tmps tm) : ∀ {xs : List Operand} {vs : List V}, evArgs tm xs = some vs → DenL F φ w (xs.map a.eval) vs
  | [], vs, h => by cases h; exact .nil
  | x :: r, vs, h => by
    unfold evArgs at h
    split at h
    · rename_i v vs' h1 h2
      cases h
      exact .cons (evV_den ht h1) (evArgs_den ht h2)
    · cases h

/-- What an operation comes to: a value as v says, the objects as h' says. -/
def Gd (P : Program) (F : Fr) (φ : List Pl) (w : World) (v : V) (h' : List Ho) : Result Next → Prop
  | .ok (.value u) w' => ∃ φ', Ext φ w φ' w' ∧ Inv F φ' w' h' ∧ Den F φ' w' u v
  | .ok .skip w' => v = .undef ∧ ∃ φ', Ext φ w φ' w' ∧ Inv F φ' w' h'
  | .ok (.enter f args) w' => Calls P f args w' fun e w'' => ∃ u φ', e = .returned u ∧ Ext φ w φ' w'' ∧ Inv F φ' w'' h' ∧ Den F φ' w'' u v
  | _ => False
theorem Gd.same {P : Program} {φ : List Pl} {w : World} {u : Value} {v : V} {h : List Ho} (hi : Inv F φ w h) (hd : Den F φ w u v) : Gd P F φ w v h (.ok (.value u) w) := ⟨φ, .refl φ w, hi, hd⟩

section
variable {P : Program} (w : World)
theorem intBin_run {op : BinOp} {k : IntKind} {x y : Int} {r : Value} (h : intBin op k x y = some r) (t : TypeId) (hs : op ≠ .shl ∧ op ≠ .shr) : (binOp op t (.int k x) (.int k y)).run P w = .ok r w ∧ flat r = true := by
  cases op <;> simp only [intBin] at h
  case quo => split at h; · cases h
              · cases h; rename_i hy; exact ⟨by simp [binOp, Op.intDiv, hy], rfl⟩
  case rem => split at h; · cases h
              · cases h; rename_i hy; exact ⟨by simp [binOp, Op.intDiv, hy], rfl⟩
  all_goals first
    | (cases h; done)
    | (cases h; exact ⟨by simp [binOp, Op.intArith, Op.intBits, Op.intCmp], rfl⟩)
    | exact absurd rfl hs.1
    | exact absurd rfl hs.2
theorem strBin_run {op : BinOp} {x y : ByteArray} {r : Value} (h : strBin op x y = some r) (t : TypeId) : (binOp op t (.string x) (.string y)).run P w = .ok r w ∧ flat r = true := by
  cases op <;> simp only [strBin] at h
  case add =>
    split at h
    · rename_i hl
      cases h
      refine ⟨?_, rfl⟩
      have : ¬ (((x.size + y.size : Nat) : Int) > IntKind.i64.max) := by simp [IntKind.max, IntKind.signed, IntKind.bits]; omega
      simp only [binOp, Op.stringOp, Sem.run_ite, if_neg this, Sem.run_pure]
    · cases h
  all_goals first
    | (cases h; done)
    | (cases h; exact ⟨by simp [binOp, Op.stringOp], rfl⟩)
theorem run_equalIn_nilp (d : Nat) {t e : TypeId} (h : P.underlying t = some (.pointer e)) : (Op.equalIn (d + 1) t (.pointer none) (.pointer none)).run P w = .ok true w := by
  simp [Op.equalIn, run_underlying h]
theorem run_equal_nilp {t e : TypeId} (h : P.underlying t = some (.pointer e)) : (Op.equal t (.pointer none) (.pointer none)).run P w = .ok true w := run_equalIn_nilp w 9999 h
theorem run_equalIn_ptrnil (d : Nat) {t e : TypeId} (a : Addr) (h : P.underlying t = some (.pointer e)) : (Op.equalIn (d + 1) t (.pointer (some a)) (.pointer none)).run P w = .ok false w := by
  simp [Op.equalIn, run_underlying h]
theorem run_equal_ptrnil {t e : TypeId} (a : Addr) (h : P.underlying t = some (.pointer e)) : (Op.equal t (.pointer (some a)) (.pointer none)).run P w = .ok false w := run_equalIn_ptrnil w 9999 a h
theorem scBin_run {op : BinOp} {t : TypeId} {a b r : Value} (h : scBin P op t a b = some r) (x y : Operand) :
    ((do eqGuard op t x y a b; binOp op t a b : Sem Value)).run P w = .ok r w ∧ flat r = true := by
  have hg : ∀ (a b : Value), a ≠ .nilIface → (∀ cs, a ≠ .agg cs) → (eqGuard op t x y a b).run P w = .ok () w := by
    intro a b h1 h2
    unfold eqGuard
    cases op <;> cases a <;> simp_all
  rw [Sem.run_bind]
  unfold scBin at h
  split at h
  · rename_i k x1 k' y1
    rw [hg _ _ (by simp) (by simp), Result.andThen_ok]
    split at h
    · split at h
      · cases h
      · cases h; rename_i hy; exact ⟨by simp [binOp, Op.shift, hy], rfl⟩
    · split at h
      · cases h
      · cases h; rename_i hy; exact ⟨by simp [binOp, Op.shift, hy], rfl⟩
    · rename_i op' h1 h2
      split at h
      · rename_i hk; subst hk
        exact intBin_run w h t ⟨h1, h2⟩
      · cases h
  · rename_i x1 y1
    rw [hg _ _ (by simp) (by simp), Result.andThen_ok]
    exact strBin_run w h t
  · rename_i x1 y1
    rw [hg _ _ (by simp) (by simp), Result.andThen_ok]
    split at h
    · rename_i hu; cases h
      exact ⟨by simp only [binOp, Sem.run_bind, run_equal_bool w t x1 y1 hu, Result.andThen_ok, Sem.run_pure, Sem.run_map], rfl⟩
    · rename_i hu; cases h
      exact ⟨by simp only [binOp, Sem.run_bind, run_equal_bool w t x1 y1 hu, Result.andThen_ok, Sem.run_pure, Sem.run_map], rfl⟩
    · cases h
  · rw [hg _ _ (by simp) (by simp), Result.andThen_ok]
    split at h
    · rename_i hu; cases h
      exact ⟨by simp only [binOp, Sem.run_bind, run_equal_nilp w hu, Result.andThen_ok, Sem.run_pure, Bool.not_true, Sem.run_map], rfl⟩
    · rename_i hu; cases h
      exact ⟨by simp only [binOp, Sem.run_bind, run_equal_nilp w hu, Result.andThen_ok, Sem.run_pure, Bool.not_true, Sem.run_map], rfl⟩
    · cases h
  · cases h
end
end Go.Proofs.Ytfcbpdokilidgaa
