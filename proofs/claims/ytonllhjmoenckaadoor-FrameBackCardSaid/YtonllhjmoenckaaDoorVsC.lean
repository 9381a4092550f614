/- The pure step of an operation is what the model's operation does: operands, scalars, comparisons. No program stands here. -/
import Derived.Test.YtonllhjmoenckaaDoorVsB
import Derived.ChangeKeysEq
import Derived.Deep.MidRow
import Derived.Laws.IdiomStrings
import Derived.Laws.BytesString
import Derived.Great.BuildSlice
namespace Go.Proofs.YtonllhjmoenckaaDoor
section
open Go Go.RowKit
set_option linter.unusedVariables false
set_option linter.unusedSimpArgs false
variable {F : Fr}

def RelT (F : Fr) (φ : List Pl) (w : World) (tmps : Array Value) (tm : List V) : Prop :=
  tmps.size = tm.length ∧ ∀ (t : Nat) (r : Value) (v : V), tmps[t]? = some r → tm[t]? = some v → Den F φ w r v

inductive DenL (F : Fr) (φ : List Pl) (w : World) : List Value → List V → Prop
  | nil : DenL F φ w [] []
  | cons {r : Value} {v : V} {rs : List Value} {vs : List V} (h : Den F φ w r v) (hs : DenL F φ w rs vs) : DenL F φ w (r :: rs) (v :: vs)

theorem DenL.length {φ : List Pl} {w : World} {rs : List Value} {vs : List V} (h : DenL F φ w rs vs) : rs.length = vs.length := by
  induction h with
  | nil => rfl
  | cons _ _ ih => simp [ih]
theorem DenL.get {φ : List Pl} {w : World} {rs : List Value} {vs : List V} (h : DenL F φ w rs vs) : ∀ (i : Nat) (r : Value) (v : V), rs[i]? = some r → vs[i]? = some v → Den F φ w r v := by
  induction h with
  | nil => intro i r v h; simp at h
  | cons hd _ ih =>
    intro i r v h1 h2
    cases i with
    | zero => simp at h1 h2; subst h1 h2; exact hd
    | succ i => simp at h1 h2; exact ih i r v h1 h2
theorem DenL.of_get {φ : List Pl} {w : World} : ∀ {rs : List Value} {vs : List V}, rs.length = vs.length → (∀ (i : Nat) (r : Value) (v : V), rs[i]? = some r → vs[i]? = some v → Den F φ w r v) → DenL F φ w rs vs
  | [], [], _, _ => .nil
  | r :: rs, v :: vs, hl, h => .cons (h 0 r v rfl rfl) (.of_get (by simpa using hl) fun i r v h1 h2 => h (i + 1) r v (by simpa using h1) (by simpa using h2))
  | [], _ :: _, hl, _ => by simp at hl
  | _ :: _, [], hl, _ => by simp at hl
theorem DenL.ext {φ φ' : List Pl} {w w' : World} (he : Ext φ w φ' w') {rs : List Value} {vs : List V} (h : DenL F φ w rs vs) : DenL F φ' w' rs vs := by
  induction h with
  | nil => exact .nil
  | cons hd _ ih => exact .cons (hd.ext he) ih
theorem DenL.append {φ : List Pl} {w : World} {rs rs' : List Value} {vs vs' : List V} (h : DenL F φ w rs vs) (h' : DenL F φ w rs' vs') : DenL F φ w (rs ++ rs') (vs ++ vs') := by
  induction h with
  | nil => exact h'
  | cons hd _ ih => exact .cons hd ih

theorem flat_one {x : Value} (h : flat x = true) : x.oneCell' = true := by
  cases x <;> first | rfl | simp [flat] at h
theorem DenD.one {φ : List Pl} {w : World} {r : Value} {x : D} (h : DenD F φ w r x) : r.oneCell' = true := by
  cases h with
  | sc h => exact flat_one h
  | nil => rfl
  | sl => rfl
theorem Den.one {φ : List Pl} {w : World} {r : Value} {v : V} (h : Den F φ w r v) (h1 : isOne v = true) : r.oneCell' = true := by
  cases h with
  | d h => exact h.one
  | agg => simp [isOne] at h1
  | tup => simp [isOne] at h1
  | any => simp [isOne] at h1
  | _ => rfl
theorem Den.sc {φ : List Pl} {w : World} {r x : Value} (h : Den F φ w r (.d (.sc x))) : r = x ∧ flat x = true := by
  cases h with
  | d h => cases h with
    | sc h => exact ⟨rfl, h⟩
theorem den_sc {φ : List Pl} {w : World} {x : Value} (h : flat x = true) : Den F φ w x (.d (.sc x)) := .d (.sc h)
theorem den_undef {φ : List Pl} {w : World} : Den F φ w undef .undef := .tup rfl fun i r v h => by simp at h

theorem constV_den {φ : List Pl} {w : World} {x : Value} {v : V} (h : constV x = some v) : Den F φ w x v := by
  unfold constV at h
  split at h
  · rename_i cs
    split at h
    · rename_i hf
      cases h
      have hf' : ∀ (i : Nat) (r : Value), cs[i]? = some r → flat r = true := fun i r hr => Array.all_eq_true_iff_forall_mem.1 hf r (Array.mem_of_getElem? hr)
      refine .agg (by simp) (fun i r hr => flat_one (hf' i r hr)) fun i r v hr hv => ?_
      rw [List.getElem?_map, Array.getElem?_toList, hr] at hv
      simp only [Option.map_some, Option.some.injEq] at hv
      subst hv
      exact den_sc (hf' i r hr)
    · cases h
  · rename_i vs
    split at h
    · rename_i hv
      cases h
      obtain rfl : vs = #[] := Array.eq_empty_of_size_eq_zero hv
      exact den_undef
    · cases h
  · split at h
    · cases h; exact den_sc ‹_›
    · cases h

theorem evV_den {φ : List Pl} {w : World} {a : Act} {tm : List V} (ht : RelT F φ w a.tmps tm) {x : Operand} {v : V} (h : evV tm x = some v) : Den F φ w (a.eval x) v := by
  cases x with
  | tmp t =>
    have hl := get_lt h
    have hs : t < a.tmps.size := by rw [ht.1]; exact hl
    have hr : a.tmps[t]? = some a.tmps[t] := Array.getElem?_eq_getElem hs
    have : a.eval (.tmp t) = a.tmps[t] := by simp [Act.eval, Array.getD, hs]
    rw [this]
    exact ht.2 t _ v hr h
  | const x => exact constV_den h
  | global g => cases h
  | func f => cases h; exact .fn rfl fun i r v h => by simp at h

theorem evArgs_den {φ : List Pl} {w : World} {a : Act} {tm : List V} (ht : RelT F φ w a.tmps tm) : ∀ {xs : List Operand} {vs : List V}, evArgs tm xs = some vs → DenL F φ w (xs.map a.eval) vs
  | [], vs, h => by cases h; exact .nil
  | x :: r, vs, h => by
    unfold evArgs at h
    split at h
    · rename_i v vs' h1 h2
      cases h
      exact .cons (evV_den ht h1) (evArgs_den ht h2)
    · cases h

/-- What an operation comes to: a value as v says, the objects as h' says. -/
def Gd (P : Program) (F : Fr) (φ : List Pl) (w : World) (v : V) (h' : List Ho) : Result Next → Prop
  | .ok (.value u) w' => ∃ φ', Ext φ w φ' w' ∧ Inv F φ' w' h' ∧ Den F φ' w' u v
  | .ok .skip w' => v = .undef ∧ ∃ φ', Ext φ w φ' w' ∧ Inv F φ' w' h'
  | .ok (.enter f args) w' => Calls P f args w' fun e w'' => ∃ u φ', e = .returned u ∧ Ext φ w φ' w'' ∧ Inv F φ' w'' h' ∧ Den F φ' w'' u v
  | _ => False
theorem Gd.same {P : Program} {φ : List Pl} {w : World} {u : Value} {v : V} {h : List Ho} (hi : Inv F φ w h) (hd : Den F φ w u v) : Gd P F φ w v h (.ok (.value u) w) := ⟨φ, .refl φ w, hi, hd⟩

section
variable {P : Program} (w : World)
theorem intBin_run {op : BinOp} {k : IntKind} {x y : Int} {r : Value} (h : intBin op k x y = some r) (t : TypeId) (hs : op ≠ .shl ∧ op ≠ .shr) : (binOp op t (.int k x) (.int k y)).run P w = .ok r w ∧ flat r = true := by
  cases op <;> simp only [intBin] at h
  case quo => split at h; · cases h
              · cases h; rename_i hy; exact ⟨by simp [binOp, Op.intDiv, hy], rfl⟩
  case rem => split at h; · cases h
              · cases h; rename_i hy; exact ⟨by simp [binOp, Op.intDiv, hy], rfl⟩
  all_goals first
    | (cases h; done)
    | (cases h; exact ⟨by simp [binOp, Op.intArith, Op.intBits, Op.intCmp], rfl⟩)
    | exact absurd rfl hs.1
    | exact absurd rfl hs.2
theorem strBin_run {op : BinOp} {x y : ByteArray} {r : Value} (h : strBin op x y = some r) (t : TypeId) : (binOp op t (.string x) (.string y)).run P w = .ok r w ∧ flat r = true := by
  cases op <;> simp only [strBin] at h
  case add =>
    split at h
    · rename_i hl
      cases h
      refine ⟨?_, rfl⟩
      have : ¬ (((x.size + y.size : Nat) : Int) > IntKind.i64.max) := by simp [IntKind.max, IntKind.signed, IntKind.bits]; omega
      simp only [binOp, Op.stringOp, Sem.run_ite, if_neg this, Sem.run_pure]
    · cases h
  all_goals first
    | (cases h; done)
    | (cases h; exact ⟨by simp [binOp, Op.stringOp], rfl⟩)
theorem run_equalIn_nilp (d : Nat) {t e : TypeId} (h : P.underlying t = some (.pointer e)) : (Op.equalIn (d + 1) t (.pointer none) (.pointer none)).run P w = .ok true w := by
  simp [Op.equalIn, run_underlying h]
theorem run_equal_nilp {t e : TypeId} (h : P.underlying t = some (.pointer e)) : (Op.equal t (.pointer none) (.pointer none)).run P w = .ok true w := run_equalIn_nilp w 9999 h
theorem run_equalIn_ptrnil (d : Nat) {t e : TypeId} (a : Addr) (h : P.underlying t = some (.pointer e)) : (Op.equalIn (d + 1) t (.pointer (some a)) (.pointer none)).run P w = .ok false w := by
  simp [Op.equalIn, run_underlying h]
theorem run_equal_ptrnil {t e : TypeId} (a : Addr) (h : P.underlying t = some (.pointer e)) : (Op.equal t (.pointer (some a)) (.pointer none)).run P w = .ok false w := run_equalIn_ptrnil w 9999 a h
theorem run_equalIn_nils (d : Nat) {t e : TypeId} (h : P.underlying t = some (.slice e)) : (Op.equalIn (d + 1) t (.slice none 0 0) (.slice none 0 0)).run P w = .ok true w := by
  simp [Op.equalIn, run_underlying h]
theorem run_equal_nils {t e : TypeId} (h : P.underlying t = some (.slice e)) : (Op.equal t (.slice none 0 0) (.slice none 0 0)).run P w = .ok true w := run_equalIn_nils w 9999 h
theorem run_equalIn_snil (d : Nat) {t e : TypeId} (a : Addr) (n c : Nat) (h : P.underlying t = some (.slice e)) : (Op.equalIn (d + 1) t (.slice (some a) n c) (.slice none 0 0)).run P w = .ok false w := by
  simp [Op.equalIn, run_underlying h]
theorem run_equal_snil {t e : TypeId} (a : Addr) (n c : Nat) (h : P.underlying t = some (.slice e)) : (Op.equal t (.slice (some a) n c) (.slice none 0 0)).run P w = .ok false w := run_equalIn_snil w 9999 a n c h
theorem run_equalIn_nilm (d : Nat) {t k e : TypeId} (h : P.underlying t = some (.map k e)) : (Op.equalIn (d + 1) t (.map none) (.map none)).run P w = .ok true w := by
  simp [Op.equalIn, run_underlying h]
theorem run_equal_nilm {t k e : TypeId} (h : P.underlying t = some (.map k e)) : (Op.equal t (.map none) (.map none)).run P w = .ok true w := run_equalIn_nilm w 9999 h
theorem run_equalIn_mnil (d : Nat) {t k e : TypeId} (b : Nat) (h : P.underlying t = some (.map k e)) : (Op.equalIn (d + 1) t (.map (some b)) (.map none)).run P w = .ok false w := by
  simp [Op.equalIn, run_underlying h]
theorem run_equal_mnil {t k e : TypeId} (b : Nat) (h : P.underlying t = some (.map k e)) : (Op.equal t (.map (some b)) (.map none)).run P w = .ok false w := run_equalIn_mnil w 9999 b h
theorem scBin_run {op : BinOp} {t : TypeId} {a b r : Value} (h : scBin P op t a b = some r) (x y : Operand) :
    ((do eqGuard op t x y a b; binOp op t a b : Sem Value)).run P w = .ok r w ∧ flat r = true := by
  have hg : ∀ (a b : Value), a ≠ .nilIface → (∀ cs, a ≠ .agg cs) → (eqGuard op t x y a b).run P w = .ok () w := by
    intro a b h1 h2
    unfold eqGuard
    cases op <;> cases a <;> simp_all
  rw [Sem.run_bind]
  unfold scBin at h
  split at h
  · rename_i k x1 k' y1
    rw [hg _ _ (by simp) (by simp), Result.andThen_ok]
    split at h
    · split at h
      · cases h
      · cases h; rename_i hy; exact ⟨by simp [binOp, Op.shift, hy], rfl⟩
    · split at h
      · cases h
      · cases h; rename_i hy; exact ⟨by simp [binOp, Op.shift, hy], rfl⟩
    · rename_i op' h1 h2
      split at h
      · rename_i hk; subst hk
        exact intBin_run w h t ⟨h1, h2⟩
      · cases h
  · rename_i x1 y1
    rw [hg _ _ (by simp) (by simp), Result.andThen_ok]
    exact strBin_run w h t
  · rename_i x1 y1
    rw [hg _ _ (by simp) (by simp), Result.andThen_ok]
    split at h
    · rename_i hu; cases h
      exact ⟨by simp only [binOp, Sem.run_bind, run_equal_bool w t x1 y1 hu, Result.andThen_ok, Sem.run_pure, Sem.run_map], rfl⟩
    · rename_i hu; cases h
      exact ⟨by simp only [binOp, Sem.run_bind, run_equal_bool w t x1 y1 hu, Result.andThen_ok, Sem.run_pure, Sem.run_map], rfl⟩
    · cases h
  · rw [hg _ _ (by simp) (by simp), Result.andThen_ok]
    split at h
    · rename_i hu; cases h
      exact ⟨by simp only [binOp, Sem.run_bind, run_equal_nilp w hu, Result.andThen_ok, Sem.run_pure, Bool.not_true, Sem.run_map], rfl⟩
    · rename_i hu; cases h
      exact ⟨by simp only [binOp, Sem.run_bind, run_equal_nilp w hu, Result.andThen_ok, Sem.run_pure, Bool.not_true, Sem.run_map], rfl⟩
    · cases h
  · rw [hg _ _ (by simp) (by simp), Result.andThen_ok]
    split at h
    · rename_i hu; cases h
      exact ⟨by simp only [binOp, Sem.run_bind, run_equal_nils w hu, Result.andThen_ok, Sem.run_pure, Sem.run_map], rfl⟩
    · rename_i hu; cases h
      exact ⟨by simp only [binOp, Sem.run_bind, run_equal_nils w hu, Result.andThen_ok, Sem.run_pure, Bool.not_true, Sem.run_map], rfl⟩
    · cases h
  · rw [hg _ _ (by simp) (by simp), Result.andThen_ok]
    split at h
    · rename_i hu; cases h
      exact ⟨by simp only [binOp, Sem.run_bind, run_equal_nilm w hu, Result.andThen_ok, Sem.run_pure, Sem.run_map], rfl⟩
    · rename_i hu; cases h
      exact ⟨by simp only [binOp, Sem.run_bind, run_equal_nilm w hu, Result.andThen_ok, Sem.run_pure, Bool.not_true, Sem.run_map], rfl⟩
    · cases h
  · cases h
end
end

section
open Go Go.RowKit
set_option linter.unusedVariables false
set_option linter.unusedSimpArgs false
variable {F : Fr}

section
variable {P : Program} {F : Fr} {φ : List Pl} {w : World}

theorem Den.aggInv {r : Value} {cs : List V} (h : Den F φ w r (.agg cs)) : ∃ rs : Array Value, r = .agg rs ∧ rs.size = cs.length ∧ (∀ (i : Nat) (r : Value), rs[i]? = some r → r.oneCell' = true) ∧ ∀ (i : Nat) (r : Value) (v : V), rs[i]? = some r → cs[i]? = some v → Den F φ w r v := by
  cases h with
  | agg hs h1 h => exact ⟨_, rfl, hs, h1, h⟩
theorem Den.tupInv {r : Value} {cs : List V} (h : Den F φ w r (.tup cs)) : ∃ rs : Array Value, r = .tuple rs ∧ rs.size = cs.length ∧ ∀ (i : Nat) (r : Value) (v : V), rs[i]? = some r → cs[i]? = some v → Den F φ w r v := by
  cases h with
  | tup hs h => exact ⟨_, rfl, hs, h⟩
theorem Den.fnInv {r : Value} {f : Nat} {cs : List V} (h : Den F φ w r (.fn f cs)) : ∃ rs : Array Value, r = .func (.func f) #[] rs ∧ rs.size = cs.length ∧ ∀ (i : Nat) (r : Value) (v : V), rs[i]? = some r → cs[i]? = some v → Den F φ w r v := by
  cases h with
  | fn hs h => exact ⟨_, rfl, hs, h⟩
theorem Den.ptrInv {r : Value} {o off : Nat} (h : Den F φ w r (.ptr o off)) : ∃ b, r = .pointer (some ⟨b, off, none⟩) ∧ lv φ o ∧ ∀ {z : Nat} b', φ[o]? = some (Pl.obj b' z) → b' = b := by
  cases h with
  | ptr ho h => exact ⟨_, rfl, ho, h⟩
theorem Den.epInv {r : Value} {cells : List D} {off : Nat} (h : Den F φ w r (.ep cells off)) : ∃ (b at_ : Nat) (c : Nat → Value), r = .pointer (some ⟨b, at_ + off, none⟩) ∧ (∀ j, j < cells.length → cellP F φ w b (at_ + j) (c j)) ∧ ∀ (j : Nat) (x : D), cells[j]? = some x → DenD F φ w (c j) x := by
  cases h with
  | ep c ha hc hd => subst ha; exact ⟨_, _, c, rfl, hc, hd⟩

theorem getLt {α : Type} {xs : Array α} {i : Nat} {x : α} (h : xs[i]? = some x) : i < xs.size := by
  rcases Nat.lt_or_ge i xs.size with h1 | h1
  · exact h1
  · rw [Array.getElem?_eq_none h1] at h; cases h
theorem ofLt {α : Type} {xs : Array α} {i : Nat} (h : i < xs.size) : ∃ x, xs[i]? = some x := ⟨xs[i], Array.getElem?_eq_getElem h⟩
theorem ofLtL {α : Type} {xs : List α} {i : Nat} (h : i < xs.length) : ∃ x, xs[i]? = some x := ⟨xs[i], List.getElem?_eq_getElem h⟩

theorem run_part_one {e : TypeId} (h : aggT P e = false) {d : TypeDesc} (hu : P.underlying e = some d) {rs : Array Value} {off : Nat} {r : Value} (hr : rs[off]? = some r) : (part e rs off).run P w = .ok r w := by
  unfold aggT at h
  rw [hu] at h
  cases d <;> simp at h <;> simp [part, isAgg, run_underlying hu, hr]

theorem eqInts_run {e : TypeId} {q : IntKind} (hu : P.underlying e = some (.int q)) (d : Nat) : ∀ (xs ys : List V) (j : Nat) (rs ss : Array Value) (b : Bool), eqInts xs ys = some b →
    (∀ i v, xs[i]? = some v → ∃ r, rs[j + i]? = some r ∧ Den F φ w r v) → (∀ i v, ys[i]? = some v → ∃ r, ss[j + i]? = some r ∧ Den F φ w r v) →
    (Op.eqItems (d + 1) e 1 rs ss (List.range' j xs.length)).run P w = .ok b w
  | [], [], j, rs, ss, b, h, _, _ => by simp only [eqInts] at h; cases h; simp [Op.eqItems]
  | v :: xs, [], j, rs, ss, b, h, _, _ => by simp [eqInts] at h
  | [], v :: ys, j, rs, ss, b, h, _, _ => by simp [eqInts] at h
  | v :: xs, u :: ys, j, rs, ss, b, h, h1, h2 => by
    unfold eqInts at h
    split at h
    · rename_i h0; cases h0
    · rename_i k a xs' k' a' ys' e1 e2
      cases e1; cases e2
      split at h
      · rename_i hk
        subst hk
        obtain ⟨r, hr, hd⟩ := h1 0 _ rfl
        obtain ⟨s, hs, hd'⟩ := h2 0 _ rfl
        obtain ⟨rfl, _⟩ := hd.sc
        obtain ⟨rfl, _⟩ := hd'.sc
        have hag : aggT P e = false := by unfold aggT; rw [hu]
        obtain ⟨b', hb', rfl⟩ := Option.map_eq_some_iff.1 h
        have ih := eqInts_run hu d xs ys (j + 1) rs ss b' hb' (fun i v hv => by have := h1 (i + 1) v hv; rwa [show j + (i + 1) = j + 1 + i by omega] at this) (fun i v hv => by have := h2 (i + 1) v hv; rwa [show j + (i + 1) = j + 1 + i by omega] at this)
        simp only [Nat.add_zero] at hr hs
        simp only [List.length_cons, List.range'_succ, Op.eqItems, Nat.mul_one, Sem.run_bind, run_part_one hag hu hr, run_part_one hag hu hs, Result.andThen_ok, run_equalIn_int w d e k q a a' hu, Sem.run_ite]
        cases hh : (a == a')
        · simp
        · simp only [Bool.not_true, Bool.false_eq_true, if_false, Bool.true_and]; exact ih
      · cases h
    · cases h

theorem eqV_run {t : TypeId} {xs ys : List V} {b : Bool} (h : eqV P t xs ys = some b) {r s : Value} (hr : Den F φ w r (.agg xs)) (hs : Den F φ w s (.agg ys)) :
    (Op.equal t r s).run P w = .ok b w ∧ P.eqGuardType P.depth t = false := by
  unfold eqV at h
  split at h
  · rename_i n e hu
    split at h
    · rename_i hc
      obtain ⟨h1, h2, h3, h4, h5⟩ := hc
      obtain ⟨rs, rfl, hrs, _, hrd⟩ := hr.aggInv
      obtain ⟨ss, rfl, hss, _, hsd⟩ := hs.aggInv
      unfold isIntT at h1
      split at h1
      · rename_i q hq
        obtain ⟨i, hi⟩ := info_of_underlying hq
        have hce : P.cellsOf e = 1 := by
          unfold szT at h2; unfold Program.cellsOf; rw [h2]; rfl
        refine ⟨?_, h3⟩
        have := eqInts_run (P := P) (φ := φ) (w := w) hq 9998 xs ys 0 rs ss b h (fun i v hv => by
          obtain ⟨r, hr⟩ := ofLt (xs := rs) (i := i) (by rw [hrs]; exact get_lt hv)
          exact ⟨r, by simpa using hr, hrd i r v hr hv⟩) (fun i v hv => by
          obtain ⟨r, hr⟩ := ofLt (xs := ss) (i := i) (by rw [hss]; exact get_lt hv)
          exact ⟨r, by simpa using hr, hsd i r v hr hv⟩)
        show (Op.equalIn (9999 + 1) t (.agg rs) (.agg ss)).run P w = _
        rw [run_equalIn_array w 9999 rs ss hu hi, hce, List.range_eq_range', ← h4]
        exact this
      · cases h1
    · cases h
  · cases h

theorem nilCmp_run {op : BinOp} {t : TypeId} {e : Bool} {v : V} (h : nilCmp P op t e = some v) {r : Value} (hr : (∃ a n c, r = .slice (some a) n c) ∨ (e = true ∧ r = .slice none 0 0)) (x y : Operand) :
    ∃ u, ((do eqGuard op t x y r (.slice none 0 0); binOp op t r (.slice none 0 0) : Sem Value)).run P w = .ok u w ∧ Den F φ w u v := by
  unfold nilCmp at h
  split at h
  case isFalse => cases h
  rename_i hc
  obtain ⟨hp, hop⟩ := hc
  unfold isSliceT at hp
  split at hp
  case h_2 => cases hp
  rename_i el hu
  have hg : ∀ (op : BinOp) (a : Option Addr) (n c : Nat), (eqGuard op t x y (.slice a n c) (.slice none 0 0)).run P w = .ok () w := fun op a n c => by
    unfold eqGuard; cases op <;> simp
  rcases hr with ⟨a, n, c, rfl⟩ | ⟨rfl, rfl⟩
  · rcases hop with rfl | rfl
    · refine ⟨.bool false, by simp only [Sem.run_bind, hg, Result.andThen_ok, binOp, run_equal_snil w _ _ _ hu, Sem.run_pure, Sem.run_map], ?_⟩
      cases e <;> cases h
      · exact den_sc rfl
      · exact .ub
    · refine ⟨.bool true, by simp only [Sem.run_bind, hg, Result.andThen_ok, binOp, run_equal_snil w _ _ _ hu, Sem.run_pure, Sem.run_map, Bool.not_false], ?_⟩
      cases e <;> cases h
      · exact den_sc rfl
      · exact .ub
  · cases h
    rcases hop with rfl | rfl
    · exact ⟨.bool true, by simp only [Sem.run_bind, hg, Result.andThen_ok, binOp, run_equal_nils w hu, Sem.run_pure, Sem.run_map], .ub⟩
    · exact ⟨.bool false, by simp only [Sem.run_bind, hg, Result.andThen_ok, binOp, run_equal_nils w hu, Sem.run_pure, Sem.run_map, Bool.not_true], .ub⟩
theorem sl_nilOr {r : Value} {k : Nat} {es : List (List D)} (h : DenD F φ w r (.sl k es)) : (∃ a n c, r = .slice (some a) n c) ∨ (es.isEmpty = true ∧ r = .slice none 0 0) := by
  cases h with
  | @nil k a => cases a with
    | none => exact .inr ⟨rfl, rfl⟩
    | some a => exact .inl ⟨_, _, _, rfl⟩
  | sl => exact .inl ⟨_, _, _, rfl⟩
theorem mnil_run {op : BinOp} {t : TypeId} {v : V} (hp : isMapT P t = true) (b : Nat) (h : (match op with
    | .eql => some (V.sc (.bool false))
    | .neq => some (.sc (.bool true))
    | _ => none) = some v) (x y : Operand) :
    ∃ u, ((do eqGuard op t x y (.map (some b)) (.map none); binOp op t (.map (some b)) (.map none) : Sem Value)).run P w = .ok u w ∧ Den F φ w u v := by
  unfold isMapT at hp
  split at hp
  · rename_i k e hu
    have hg : ∀ (op : BinOp), (eqGuard op t x y (.map (some b)) (.map none)).run P w = .ok () w := fun op => by
      unfold eqGuard; cases op <;> simp
    split at h <;> cases h
    · exact ⟨.bool false, by simp only [Sem.run_bind, hg, Result.andThen_ok, binOp, run_equal_mnil w _ hu, Sem.run_pure, Sem.run_map], den_sc rfl⟩
    · exact ⟨.bool true, by simp only [Sem.run_bind, hg, Result.andThen_ok, binOp, run_equal_mnil w _ hu, Sem.run_pure, Sem.run_map, Bool.not_false], den_sc rfl⟩
  · cases hp
theorem binV_run {op : BinOp} {t : TypeId} {a b v : V} (h : binV P op t a b = some v) {r s : Value} (hr : Den F φ w r a) (hs : Den F φ w s b) (x y : Operand) :
    ∃ u, ((do eqGuard op t x y r s; binOp op t r s : Sem Value)).run P w = .ok u w ∧ Den F φ w u v := by
  unfold binV at h
  split at h
  · obtain ⟨rfl, _⟩ := hr.sc
    obtain ⟨rfl, _⟩ := hs.sc
    obtain ⟨u, hu, rfl⟩ := Option.map_eq_some_iff.1 h
    obtain ⟨h1, h2⟩ := scBin_run w hu x y
    exact ⟨u, h1, den_sc h2⟩
  · obtain ⟨rfl, _⟩ := hs.sc
    obtain ⟨b, rfl, _⟩ := hr.ptrInv
    split at h
    · rename_i hp
      unfold isPtrT at hp
      split at hp
      · rename_i e hu
        have hg : ∀ (op : BinOp) (n : Nat), (eqGuard op t x y (.pointer (some ⟨b, n, none⟩)) (.pointer none)).run P w = .ok () w := fun op n => by
          unfold eqGuard; cases op <;> simp
        split at h <;> cases h
        · exact ⟨.bool false, by simp only [Sem.run_bind, hg, Result.andThen_ok, binOp, run_equal_ptrnil w _ hu, Sem.run_pure, Sem.run_map], den_sc rfl⟩
        · exact ⟨.bool true, by simp only [Sem.run_bind, hg, Result.andThen_ok, binOp, run_equal_ptrnil w _ hu, Sem.run_pure, Sem.run_map, Bool.not_false], den_sc rfl⟩
      · cases hp
    · cases h
  · obtain ⟨rfl, _⟩ := hs.sc
    refine nilCmp_run h ?_ x y
    cases hr with
    | hs => exact .inl ⟨_, _, _, rfl⟩
    | @hsE _ _ _ cap a ho ha hc hsp => cases a with
      | none => obtain rfl := ha rfl; exact .inr ⟨rfl, rfl⟩
      | some a => exact .inl ⟨_, _, _, rfl⟩
    | @hsN _ _ _ a ho hh => cases a with
      | none => exact .inr ⟨rfl, rfl⟩
      | some a => exact .inl ⟨_, _, _, rfl⟩
  · obtain ⟨rfl, _⟩ := hs.sc
    refine nilCmp_run h ?_ x y
    cases hr with
    | d hd => exact sl_nilOr hd
  · obtain ⟨rfl, _⟩ := hs.sc
    refine nilCmp_run h ?_ x y
    cases hr with
    | own ht hd => exact sl_nilOr hd
    | ownEx ht hh hd => exact sl_nilOr hd
  · obtain ⟨rfl, _⟩ := hs.sc
    refine nilCmp_run h ?_ x y
    cases hr with
    | full hd => exact sl_nilOr hd
  · obtain ⟨rfl, _⟩ := hs.sc
    split at h
    · rename_i hc
      cases hr with
      | mp => exact mnil_run hc _ h x y
    · cases h
  · split at h
    · obtain ⟨b, hb, rfl⟩ := Option.map_eq_some_iff.1 h
      obtain ⟨h1, h2⟩ := eqV_run hb hr hs
      obtain ⟨rs, rfl, _⟩ := hr.aggInv
      obtain ⟨ss, rfl, _⟩ := hs.aggInv
      have hg : (eqGuard .eql t x y (.agg rs) (.agg ss)).run P w = .ok () w := by
        unfold eqGuard; simp [h2]
      exact ⟨.bool b, by simp only [Sem.run_bind, hg, Result.andThen_ok, binOp, h1, Sem.run_pure, Sem.run_map], den_sc rfl⟩
    · obtain ⟨b, hb, rfl⟩ := Option.map_eq_some_iff.1 h
      obtain ⟨h1, h2⟩ := eqV_run hb hr hs
      obtain ⟨rs, rfl, _⟩ := hr.aggInv
      obtain ⟨ss, rfl, _⟩ := hs.aggInv
      have hg : (eqGuard .neq t x y (.agg rs) (.agg ss)).run P w = .ok () w := by
        unfold eqGuard; simp [h2]
      exact ⟨.bool !b, by simp only [Sem.run_bind, hg, Result.andThen_ok, binOp, h1, Sem.run_pure, Sem.run_map], den_sc rfl⟩
    · cases h
  · cases h

theorem unV_run {op : UnOp} {a v : V} (h : unV op a = some v) {r : Value} (hr : Den F φ w r a) : ∃ u, (Op.unary op r).run P w = .ok u w ∧ Den F φ w u v := by
  unfold unV at h
  split at h
  · obtain ⟨rfl, _⟩ := hr.sc
    split at h <;> cases h
    · exact ⟨_, by simp [Op.unary, Op.intArith], den_sc rfl⟩
    · exact ⟨_, by simp [Op.unary, Op.intBits], den_sc rfl⟩
  · obtain ⟨rfl, _⟩ := hr.sc
    split at h <;> cases h
    exact ⟨_, by simp [Op.unary], den_sc rfl⟩
  · split at h <;> cases h
    cases hr with
    | @ub b => exact ⟨.bool (!b), by simp [Op.unary], .ub⟩
  · cases h

/-! ### Slices by their elements -/
theorem esOf_den {k : Nat} {v : V} {es : List (List D)} (h : esOf k v = some es) {r : Value} (hr : Den F φ w r v) : DenD F φ w r (.sl k es) := by
  unfold esOf at h
  split at h
  · split at h
    · rename_i hk; cases h; subst hk
      cases hr with
      | d h => exact h
    · cases h
  · split at h
    · rename_i hk; cases h; subst hk
      cases hr with
      | own ht h => exact h
      | ownEx _ _ h => exact h
    · cases h
  · split at h
    · rename_i hk; cases h; subst hk
      cases hr with
      | full h => exact h
    · cases h
  · cases h
    obtain ⟨rfl, _⟩ := hr.sc
    exact .nil
  · cases h

theorem toD_den {v : V} {x : D} (h : toD v = some x) {r : Value} (hr : Den F φ w r v) : DenD F φ w r x := by
  unfold toD at h
  split at h <;> cases h
  · cases hr with
    | d h => exact h
  · exact esOf_den (k := _) (v := .own _ _ _) (by simp [esOf]) hr
  · exact esOf_den (k := _) (v := .full _ _) (by simp [esOf]) hr

theorem DenD.slInv {r : Value} {k : Nat} {es : List (List D)} (h : DenD F φ w r (.sl k es)) : (∃ a, r = .slice a 0 0 ∧ es = []) ∨
    ∃ (cap b off : Nat) (c : Nat → Nat → Value), r = .slice (some ⟨b, off, none⟩) es.length cap ∧ (es.length ≤ cap ∧ cap ≤ 9223372036854775807) ∧ (∀ (i : Nat) (e : List D), es[i]? = some e → e.length = k) ∧
      (∀ i j, i < es.length → j < k → cellP F φ w b (off + i * k + j) (c i j)) ∧ ∀ (i : Nat) (e : List D) (j : Nat) (x : D), es[i]? = some e → e[j]? = some x → DenD F φ w (c i j) x := by
  cases h with
  | nil => exact .inl ⟨_, rfl, rfl⟩
  | sl c hn hcap hk hc hd =>
    subst hn
    exact .inr ⟨_, _, _, c, rfl, hcap, hk, hc, hd⟩

theorem cellP_cell {b o : Nat} {v : Value} (h : cellP F φ w b o v) : w.cell? ⟨b, o, none⟩ = some v := h.2

theorem add_addr (b off n : Nat) : (⟨b, off, none⟩ : Addr).add n = ⟨b, off + n, none⟩ := by unfold Addr.add; split <;> simp_all

/-! ### Loads -/
theorem loadV_run {h : List Ho} (hi : Inv F φ w h) {t : TypeId} {p v : V} (hl : loadV P h t p = some v) {d : TypeDesc} (hu : P.underlying t = some d) {r : Value} (hr : Den F φ w r p) :
    ∃ u, (Instr.loadAt t r).run P w = .ok u w ∧ Den F φ w u v := by
  have one : ∀ (b o : Nat) (x : Value), aggT P t = false → w.cell? ⟨b, o, none⟩ = some x → (Instr.loadAt t (.pointer (some ⟨b, o, none⟩))).run P w = .ok x w := by
    intro b o x hag hc
    unfold aggT at hag
    rw [hu] at hag
    cases d <;> simp at hag <;> simp [Instr.loadAt, Instr.sureAddr, loadVar, isAgg, run_underlying hu, hc]
  have many : ∀ (b o n : Nat) (f : Nat → Value), aggT P t = true → szT P t = some n → (∀ j, j < n → w.cell? ⟨b, o + j, none⟩ = some (f j)) →
      (Instr.loadAt t (.pointer (some ⟨b, o, none⟩))).run P w = .ok (.agg ((List.range n).map f).toArray) w := by
    intro b o n f hag hn hc
    have hd : d.isRow = true := by
      unfold aggT at hag; rw [hu] at hag
      cases d <;> simp at hag <;> rfl
    refine run_loadAt_mid w b o t ((List.range n).map f) d (fun j v hv => ?_) hu hd ?_
    · rw [List.getElem?_map] at hv
      obtain ⟨j', hj', rfl⟩ := Option.map_eq_some_iff.1 hv
      have := get_lt hj'
      simp only [List.length_range] at this
      rw [List.getElem?_range this] at hj'; cases hj'
      exact hc j this
    · unfold szT at hn; rw [hn]; simp
  unfold loadV at hl
  split at hl
  · rename_i o off
    obtain ⟨b, rfl, ho, hb⟩ := hr.ptrInv
    split at hl
    · rename_i cs hcs
      obtain ⟨p, hp, hpn⟩ := ho
      have hok := hi.ok o p _ hp hcs
      cases p <;> simp only [ObOk] at hok
      case free =>
        subst hok
        split at hl
        · rename_i hag
          split at hl
          · rename_i n hn
            split at hl
            · rename_i hle
              cases hl
              have h0 : n = 0 := by simp at hle; omega
              subst h0
              exact ⟨_, many b off 0 (fun _ => undef) hag hn (fun j hj => absurd hj (Nat.not_lt_zero _)), .agg rfl (fun i r hr => by simp at hr) (fun i r v hr => by simp at hr)⟩
            · cases hl
          · cases hl
        · simp at hl
      rename_i b' z
      have := hb b' hp
      subst this
      obtain ⟨arr, ⟨T, hrow⟩, hz, hlen, hd⟩ := hok
      have cell : ∀ (j : Nat) (x : V), cs[j]? = some x → ∃ u, w.cell? ⟨b', j, none⟩ = some u ∧ u.oneCell' = true ∧ Den F φ w u x := fun j x hx => by
        obtain ⟨u, h1, h2, h3⟩ := hd j x hx
        exact ⟨u, (cell_of w b' j u).2 ⟨arr, T, _, hrow, h1⟩, h2, h3⟩
      split at hl
      · rename_i hag
        split at hl
        · rename_i n hn
          split at hl
          · rename_i hle
            cases hl
            have hf : ∀ j, ∃ u : Value, j < n → w.cell? ⟨b', off + j, none⟩ = some u ∧ u.oneCell' = true ∧ ∀ x, cs[off + j]? = some x → Den F φ w u x := fun j => by
              by_cases hj : j < n
              · obtain ⟨x, hx⟩ := ofLtL (xs := cs) (i := off + j) (by omega)
                obtain ⟨u, h1, h2, h3⟩ := cell _ x hx
                exact ⟨u, fun _ => ⟨h1, h2, fun y hy => by rw [hx] at hy; cases hy; exact h3⟩⟩
              · exact ⟨undef, fun h => absurd h hj⟩
            obtain ⟨f, hf⟩ : ∃ f : Nat → Value, ∀ j, j < n → w.cell? ⟨b', off + j, none⟩ = some (f j) ∧ (f j).oneCell' = true ∧ ∀ x, cs[off + j]? = some x → Den F φ w (f j) x := ⟨fun j => Classical.choose (hf j), fun j => Classical.choose_spec (hf j)⟩
            refine ⟨_, many b' off n f hag hn (fun j hj => (hf j hj).1), ?_⟩
            refine .agg (by simp; omega) (fun i r hr => ?_) fun i r v hr hv => ?_
            · have hlt := getLt hr
              simp only [List.size_toArray, List.length_map, List.length_range] at hlt
              simp [hlt] at hr
              subst hr
              exact (hf i hlt).2.1
            · have hlt := getLt hr
              simp only [List.size_toArray, List.length_map, List.length_range] at hlt
              simp [hlt] at hr
              subst hr
              rw [List.getElem?_take, if_pos hlt, List.getElem?_drop] at hv
              exact (hf i hlt).2.2 v hv
          · cases hl
        · cases hl
      · rename_i hag
        obtain ⟨u, h1, _, h3⟩ := cell off v hl
        exact ⟨u, one b' off u (by simpa using hag) h1, h3⟩
    · cases hl
  · rename_i cs off
    obtain ⟨b, at_, c, rfl, hc, hd⟩ := hr.epInv
    split at hl
    · rename_i hag
      split at hl
      · rename_i n hn
        split at hl
        · rename_i hle
          cases hl
          have hcell : ∀ j, j < n → w.cell? ⟨b, at_ + off + j, none⟩ = some (c (off + j)) := fun j hj => by
            have := (hc (off + j) (by omega)).2
            rwa [← Nat.add_assoc] at this
          refine ⟨_, many b (at_ + off) n (fun j => c (off + j)) hag hn hcell, ?_⟩
          have hden : ∀ i, i < n → ∃ x, cs[off + i]? = some x ∧ DenD F φ w (c (off + i)) x := fun i hi => by
            obtain ⟨x, hx⟩ := ofLtL (xs := cs) (i := off + i) (by omega)
            exact ⟨x, hx, hd _ x hx⟩
          refine .agg (by simp; omega) (fun i r hr => ?_) fun i r v hr hv => ?_
          · have hlt := getLt hr
            simp only [List.size_toArray, List.length_map, List.length_range] at hlt
            simp [hlt] at hr
            subst hr
            obtain ⟨x, _, h2⟩ := hden i hlt
            exact h2.one
          · have hlt := getLt hr
            simp only [List.size_toArray, List.length_map, List.length_range] at hlt
            simp [hlt] at hr
            subst hr
            obtain ⟨x, h1, h2⟩ := hden i hlt
            rw [List.getElem?_map, List.getElem?_take, if_pos hlt, List.getElem?_drop, h1] at hv
            cases hv
            exact .d h2
        · cases hl
      · cases hl
    · rename_i hag
      obtain ⟨x, hx, rfl⟩ := Option.map_eq_some_iff.1 hl
      exact ⟨c off, one b (at_ + off) _ (by simpa using hag) (hc off (get_lt hx)).2, .d (hd off x hx)⟩
  · cases hl
end
end

section
open Go Go.RowKit
set_option linter.unusedVariables false
set_option linter.unusedSimpArgs false
variable {F : Fr}

theorem splice_get {α : Type} (l m : List α) (off : Nat) (h : off + m.length ≤ l.length) (j : Nat) :
    (l.take off ++ m ++ l.drop (off + m.length))[j]? = if j < off then l[j]? else if j < off + m.length then m[j - off]? else l[j]? := by
  have ht : (l.take off).length = off := by simp; omega
  by_cases h1 : j < off
  · rw [if_pos h1, List.append_assoc, List.getElem?_append_left (by omega), List.getElem?_take, if_pos h1]
  · rw [if_neg h1]
    by_cases h2 : j < off + m.length
    · rw [if_pos h2, List.getElem?_append_left (by simp; omega), List.getElem?_append_right (by omega), ht]
    · rw [if_neg h2, List.getElem?_append_right (by simp; omega), List.getElem?_drop]
      congr 1
      simp; omega
theorem splice_len {α : Type} (l m : List α) (off : Nat) (h : off + m.length ≤ l.length) : (l.take off ++ m ++ l.drop (off + m.length)).length = l.length := by
  simp; omega

section
variable {P : Program} {F : Fr} {φ : List Pl} {w : World}

theorem cells_den {r : Value} {v : V} (h : Den F φ w r v) (h1 : (cellsV v).all isOne = true) :
    DenL F φ w r.cells.toList (cellsV v) ∧ ∀ x ∈ r.cells.toList, x.oneCell' = true := by
  have one : isOne v = true → (cellsV v) = [v] → DenL F φ w r.cells.toList (cellsV v) ∧ ∀ x ∈ r.cells.toList, x.oneCell' = true := fun ho hc => by
    have hr := h.one ho
    have e : r.cells = #[r] := by cases r <;> first | rfl | simp [Value.oneCell'] at hr
    rw [e, hc]
    exact ⟨.cons h .nil, by simp [hr]⟩
  cases v with
  | agg cs =>
    obtain ⟨rs, rfl, hs, ho, hd⟩ := h.aggInv
    exact ⟨.of_get (by simpa [Value.cells, cellsV] using hs) (fun i r v hr hv => hd i r v (by simpa [Value.cells] using hr) hv), fun x hx => by
      obtain ⟨i, hi⟩ := List.mem_iff_getElem?.1 hx
      exact ho i x (by simpa [Value.cells] using hi)⟩
  | tup cs => simp [cellsV, isOne] at h1
  | any => simp [cellsV, isOne] at h1
  | _ => exact one rfl rfl

theorem storeVar_row (b off : Nat) (t : TypeId) (s : Value) (cur : Array Value) (T : TypeId) (hg : w.heap[b]? = some (.cells cur T (0, 0))) (hsz : szT P t = some s.cells.size)
    (hle : off + s.cells.size ≤ cur.size) (h1 : ∀ x ∈ s.cells.toList, x.oneCell' = true) :
    (Instr.storeAt t (.pointer (some ⟨b, off, none⟩)) s).run P w = .ok () (w.setRow b (cur.toList.take off ++ s.cells.toList ++ cur.toList.drop (off + s.cells.toList.length)).toArray) := by
  have := run_storeCells_at (P := P) b off T s.cells.toList 0 cur w hg (by simpa using hle) h1
  simp only [Nat.add_zero] at this
  unfold szT at hsz
  cases hq : P.info? t with
  | none => simp [hq] at hsz
  | some i =>
    have hs : s.cells.size = i.size := by simp [hq] at hsz; omega
    simp [Instr.storeAt, Instr.sureAddr, storeVar, sizeOf, typeInfo, hq, hs, this]

theorem storeV_run {h h' : List Ho} (hi : Inv F φ w h) {t : TypeId} {p v : V} (hl : storeV P h t p v = some h') {r s : Value} (hr : Den F φ w r p) (hs : Den F φ w s v) :
    ∃ w', (Instr.storeAt t r s).run P w = .ok () w' ∧ Ext φ w φ w' ∧ Inv F φ w' h' := by
  unfold storeV at hl
  split at hl
  · rename_i o off
    obtain ⟨b, rfl, ho, hb⟩ := hr.ptrInv
    split at hl
    · rename_i cs hcs
      split at hl
      · rename_i hc
        obtain ⟨hsz, hone, hle⟩ := hc
        cases hl
        obtain ⟨p, hp, hpn⟩ := ho
        have hok := hi.ok o p _ hp hcs
        cases p <;> simp only [ObOk] at hok
        case free =>
          subst hok
          have h0 : cellsV v = [] := List.eq_nil_of_length_eq_zero (by have h9 := hle; simp only [List.length_nil] at h9; omega)
          obtain ⟨hden, h1⟩ := cells_den hs hone
          have hn := hden.length
          rw [Array.length_toList] at hn
          have hz : s.cells = #[] := Array.eq_empty_of_size_eq_zero (by rw [hn, h0]; rfl)
          have hsz' : szT P t = some 0 := by rw [hsz, h0]; rfl
          have hsame : h.set o (.cells ((([] : List V).take off) ++ cellsV v ++ ([] : List V).drop (off + (cellsV v).length))) = h := by
            rw [h0]; simp only [List.take_nil, List.append_nil, List.drop_nil]
            apply List.ext_getElem?; intro i
            rw [List.getElem?_set]
            split
            · rename_i e; subst e; rw [hcs]; split
              · rfl
              · rename_i hl; exact absurd (get_lt hcs) hl
            · rfl
          rw [hsame]
          refine ⟨w, ?_, .refl φ w, hi⟩
          unfold szT at hsz'
          cases hq : P.info? t with
          | none => simp [hq] at hsz'
          | some i =>
            have hi0 : i.size = 0 := by simpa [hq] using hsz'
            simp [Instr.storeAt, Instr.sureAddr, storeVar, sizeOf, typeInfo, hq, hz, hi0, storeCells]
        rename_i b' z
        have := hb b' hp
        subst this
        obtain ⟨arr, ⟨T, hrow⟩, hz, hlen, hd⟩ := hok
        obtain ⟨hden, h1⟩ := cells_den hs hone
        have hn := hden.length
        rw [Array.length_toList] at hn
        have hrun := storeVar_row (P := P) b' off t s arr T hrow (by rw [hsz, hn]) (by omega) h1
        have hap : ∀ (j : Nat) (q : Pl), φ[j]? = some q → q.blk = some b' → j = o := fun j q hq hqb => hi.apart j o q _ b' hq hp hqb rfl
        have hlt : b' < w.heap.size := heap_lt hrow
        have hsize := size_setRow w b' (arr.toList.take off ++ s.cells.toList ++ arr.toList.drop (off + s.cells.toList.length)).toArray
        have hoth : ∀ k, k ≠ b' → (w.setRow b' (arr.toList.take off ++ s.cells.toList ++ arr.toList.drop (off + s.cells.toList.length)).toArray).heap[k]? = w.heap[k]? := fun k hk => setRow_other w b' k _ hk
        have hext := Ext.atObj hp hap hsize hoth
        refine ⟨_, hrun, hext, hi.atObj hp hsize hoth ?_⟩
        have hL : s.cells.toList.length = (cellsV v).length := by simpa using hn
        refine ⟨_, ⟨T, setRow_heap w b' arr _ T _ hrow⟩, ?_, ?_, fun j x hx => ?_⟩
        · rw [← hz]; simp only [List.size_toArray]
          rw [splice_len _ _ _ (by simp; omega)]; simp
        · rw [splice_len _ _ _ (by omega)]
          simp only [List.size_toArray]
          rw [splice_len _ _ _ (by simp; omega)]
          simpa using hlen
        · rw [splice_get _ _ _ (by omega)] at hx
          simp only [List.getElem?_toArray]
          rw [splice_get _ _ _ (by simp; omega)]
          by_cases g1 : j < off
          · rw [if_pos g1] at hx ⊢
            obtain ⟨u, a1, a2, a3⟩ := hd j x hx
            exact ⟨u, by simpa using a1, a2, a3.ext hext⟩
          · rw [if_neg g1] at hx ⊢
            by_cases g2 : j < off + (cellsV v).length
            · rw [if_pos g2] at hx
              rw [if_pos (by rw [hL]; exact g2)]
              obtain ⟨u, hu⟩ := ofLtL (xs := s.cells.toList) (i := j - off) (by omega)
              exact ⟨u, hu, h1 u (List.mem_of_getElem? hu), (hden.get _ u x hu hx).ext hext⟩
            · rw [if_neg g2] at hx
              rw [if_neg (by rw [hL]; exact g2)]
              obtain ⟨u, a1, a2, a3⟩ := hd j x hx
              exact ⟨u, by simpa using a1, a2, a3.ext hext⟩
      · cases hl
    · cases hl
  · cases hl

theorem partV_run {e : TypeId} {cs : List V} {off : Nat} {v : V} (h : partV P e cs off = some v) {d : TypeDesc} (hu : P.underlying e = some d) {rs : Array Value} (hs : rs.size = cs.length)
    (h1 : ∀ (i : Nat) (r : Value), rs[i]? = some r → r.oneCell' = true) (hd : ∀ (i : Nat) (r : Value) (v : V), rs[i]? = some r → cs[i]? = some v → Den F φ w r v) :
    ∃ u, (part e rs off).run P w = .ok u w ∧ Den F φ w u v := by
  unfold partV at h
  split at h
  · rename_i hag
    split at h
    · rename_i n hn
      cases h
      have hi : ∃ i, P.info? e = some i ∧ i.size = n := by
        unfold szT at hn
        cases hq : P.info? e with
        | none => simp [hq] at hn
        | some i => exact ⟨i, rfl, by simpa [hq] using hn⟩
      obtain ⟨i, hi, hin⟩ := hi
      have hrun : (part e rs off).run P w = .ok (.agg (rs.extract off (off + n))) w := by
        unfold aggT at hag
        rw [hu] at hag
        cases d <;> simp at hag <;> simp [part, isAgg, run_underlying hu, sizeOf, typeInfo, hi, hin]
      refine ⟨_, hrun, .agg (by simp; omega) (fun j r hr => ?_) fun j r v hr hv => ?_⟩
      · rw [Array.getElem?_extract] at hr
        split at hr
        · exact h1 _ r hr
        · cases hr
      · rw [Array.getElem?_extract] at hr
        split at hr
        · rw [List.getElem?_take] at hv
          split at hv
          · rw [List.getElem?_drop] at hv
            exact hd _ r v hr hv
          · cases hv
        · cases hr
    · cases h
  · rename_i hag
    obtain ⟨r, hr⟩ := ofLt (xs := rs) (i := off) (by rw [hs]; exact get_lt h)
    exact ⟨r, run_part_one (by simpa using hag) hu hr, hd off r v hr h⟩

theorem und_of_sz {t : TypeId} {n : Nat} (h : szT P t = some n) (hn : ∃ d, P.underlying t = some d) : ∃ d, P.underlying t = some d := hn

theorem fieldOf_spec {s : TypeId} {f fo : Nat} {t : TypeId} (h : fieldOf P s f = some (fo, t)) : ∃ (fs : Array Field) (x : Field) (n : Nat), P.underlying s = some (.struct fs) ∧ fs[f]? = some x ∧ x.offset = fo ∧ x.type = t ∧ szT P t = some n ∧ n ≠ 0 := by
  unfold fieldOf at h
  split at h
  · rename_i fs hu
    split at h
    · rename_i x hx
      split at h
      · cases h
      · rename_i hn
        cases h
        cases hz : szT P x.type with
        | none => exact absurd (.inl hz) hn
        | some n => exact ⟨fs, x, n, hu, hx, rfl, rfl, rfl, fun e => hn (.inr (by rw [hz, e]))⟩
    · cases h
  · cases h

theorem fieldAddr_run {s : TypeId} {f fo : Nat} {t : TypeId} (h : fieldOf P s f = some (fo, t)) (b off : Nat) :
    (Instr.fieldAt s (.pointer (some ⟨b, off, none⟩)) f).run P w = .ok (.pointer (some ⟨b, off + fo, none⟩)) w := by
  obtain ⟨fs, x, n, hu, hx, rfl, rfl, hz, hn⟩ := fieldOf_spec h
  have hs : (sizeOf x.type).run P w = .ok n w := by
    unfold szT at hz
    cases hq : P.info? x.type with
    | none => simp [hq] at hz
    | some i => simp [sizeOf, typeInfo, hq]; simpa [hq] using hz
  simp [Instr.fieldAt, run_underlying hu, hx, Instr.sureAddr, fieldPlace, hs, hn, add_addr]
end
end
end Go.Proofs.YtonllhjmoenckaaDoor
