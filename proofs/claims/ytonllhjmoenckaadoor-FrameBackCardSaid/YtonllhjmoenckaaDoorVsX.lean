/- Closed calls are carried out by the kernel: a runner over values, and that what it tells is so. No program stands here. -/
import Derived.Test.YtonllhjmoenckaaDoorVsZ
namespace Go.Proofs.YtonllhjmoenckaaDoor
open Go Go.RowKit
set_option linter.unusedVariables false
set_option linter.unusedSimpArgs false
variable {F : Fr} {P : Program} {M : Oper → TypeId → Bool} {K : Nat → Obj → Prop} {n0 : Nat}

abbrev Runner := FuncId → List V → List Ho → Option (V × List Ho)
/-- Does the runner tell what is so? -/
def Right (P : Program) (K : Nat → Obj → Prop) (call : Runner) : Prop :=
  ∀ f vs h v h', call f vs h = some (v, h') → Enters P f ∧ Sp P K f vs h fun u hh => u = v ∧ hh = h'

def xRes (call : Runner) (st : Sv) (dst : Option Tmp) : Res → Option Sv
  | .val v h' => some ⟨putV st.tm dst v, trimY h'⟩
  | .call f vs => match call f vs st.h with
    | some (v, h') => some ⟨putV st.tm dst v, h'⟩
    | none => none
  | .no => none
def xOps (P : Program) (M : Oper → TypeId → Bool) (call : Runner) (ops : Array Oper) : List Oper → Sv → Option Sv
  | [], st => some st
  | o :: l, st => match wantedV ops st.tm o with
    | some true => match xRes call st o.dst (opV P (M o) st.tm (st.h ++ [.yet]) st.h.length o) with
      | some st' => xOps P M call ops l st'
      | none => none
    | some false => xOps P M call ops l ⟨putV st.tm o.dst .undef, st.h⟩
    | none => none

theorem xOps_ok {call : Runner} (hc : Right P K call) {ops : Array Oper} {Q : Sv → Prop} {st' : Sv} (hQ : Q st') : ∀ (l : List Oper) (st : Sv), xOps P M call ops l st = some st' → opsV P M K ops Q l st
  | [], st, h => by
    simp only [xOps, Option.some.injEq] at h
    rw [h]; exact hQ
  | o :: l, st, h => by
    unfold xOps at h
    unfold opsV brO
    split at h
    · rename_i hw
      rw [hw]
      split at h
      · rename_i st1 h1
        refine ⟨fun _ => ?_, fun e => by simp at e⟩
        have ih := xOps_ok hc hQ l st1 h
        revert h1
        cases opV P (M o) st.tm (st.h ++ [.yet]) st.h.length o with
        | val v h2 => intro h1; simp only [xRes, Option.some.injEq] at h1; subst h1; exact ih
        | no => intro h1; simp [xRes] at h1
        | call f vs =>
          intro h1
          have h1 : (match call f vs st.h with
            | some (v, h') => some ⟨putV st.tm o.dst v, h'⟩
            | none => none) = some st1 := h1
          cases hcall : call f vs st.h with
          | none => rw [hcall] at h1; cases h1
          | some r =>
            obtain ⟨v, h2⟩ := r
            rw [hcall] at h1
            cases h1
            obtain ⟨he, hs⟩ := hc _ _ _ _ _ hcall
            exact CallV.mk he hs fun u hh ⟨e1, e2⟩ => by rw [e1, e2]; exact ih
      · cases h
    · rename_i hw
      rw [hw]
      exact ⟨fun e => by simp at e, fun _ => xOps_ok hc hQ l _ h⟩
    · cases h

/-! ### Numbers that a value bears -/
mutual
def refsV (p : Nat → Bool) : V → Bool
  | .d _ => true
  | .agg cs => refsL p cs
  | .tup cs => refsL p cs
  | .own _ _ t => p t
  | .full _ _ => true
  | .ptr o _ => p o
  | .ep _ _ => true
  | .hs _ _ o _ _ => p o
  | .mp o => p o
  | .fn _ cs => refsL p cs
  | .any => true
  | .ub => true
def refsL (p : Nat → Bool) : List V → Bool
  | [] => true
  | v :: vs => refsV p v && refsL p vs
end
def refsO (p : Nat → Bool) : Ho → Bool
  | .cells cs => refsL p cs
  | .map m => m.es.all fun e => refsV p e.val
  | _ => true
mutual
theorem renV_back {g k : Nat → Nat} {p : Nat → Bool} (h : ∀ i, p i = true → g (k i) = i) : ∀ v : V, refsV p v = true → renV g (renV k v) = v
  | .d x, _ => rfl
  | .agg cs, hp => by simp only [refsV] at hp; simp only [renV]; rw [renL_back h cs hp]
  | .tup cs, hp => by simp only [refsV] at hp; simp only [renV]; rw [renL_back h cs hp]
  | .own _ _ t, hp => by simp only [refsV] at hp; simp only [renV]; rw [h t hp]
  | .full _ _, _ => rfl
  | .ptr o _, hp => by simp only [refsV] at hp; simp only [renV]; rw [h o hp]
  | .ep _ _, _ => rfl
  | .hs _ _ o _ _, hp => by simp only [refsV] at hp; simp only [renV]; rw [h o hp]
  | .mp o, hp => by simp only [refsV] at hp; simp only [renV]; rw [h o hp]
  | .fn _ cs, hp => by simp only [refsV] at hp; simp only [renV]; rw [renL_back h cs hp]
  | .any, _ => rfl
  | .ub, _ => rfl
theorem renL_back {g k : Nat → Nat} {p : Nat → Bool} (h : ∀ i, p i = true → g (k i) = i) : ∀ l : List V, refsL p l = true → renL g (renL k l) = l
  | [], _ => rfl
  | v :: vs, hp => by
    simp only [refsL, Bool.and_eq_true] at hp
    simp only [renL]
    rw [renV_back h v hp.1, renL_back h vs hp.2]
end
theorem renO_back {g k : Nat → Nat} {p : Nat → Bool} (h : ∀ i, p i = true → g (k i) = i) : ∀ o : Ho, refsO p o = true → renO g (renO k o) = o
  | .cells cs, hp => by simp only [refsO] at hp; simp only [renO]; rw [renL_back h cs hp]
  | .map m, hp => by
    obtain ⟨c, es⟩ := m
    simp only [refsO, List.all_eq_true] at hp
    simp only [renO, GM.mapV, List.map_map, Ho.map.injEq, GM.mk.injEq, true_and]
    refine (List.map_congr_left (g := id) fun e he => ?_).trans (List.map_id es)
    simp only [Function.comp, id]
    rw [renV_back h e.val (hp e he)]
  | .tail, _ => rfl
  | .dead, _ => rfl
  | .yet, _ => rfl

/-! ### What a call is handed: all that can be reached from its arguments -/
mutual
def nosV : V → List Nat
  | .agg cs => nosL cs
  | .tup cs => nosL cs
  | .own _ _ t => [t]
  | .ptr o _ => [o]
  | .hs _ _ o _ _ => [o]
  | .mp o => [o]
  | .fn _ cs => nosL cs
  | _ => []
def nosL : List V → List Nat
  | [] => []
  | v :: vs => nosV v ++ nosL vs
end
def nosO : Ho → List Nat
  | .cells cs => nosL cs
  | .map m => nosL (m.es.map (·.val))
  | _ => []
/-- k rounds: what is to be looked at, what was found. -/
def reach (h : List Ho) : Nat → List Nat → List Nat → List Nat
  | 0, _, acc => acc
  | k + 1, [], acc => acc
  | k + 1, i :: l, acc => if acc.contains i then reach h k l acc else match h[i]? with
    | some o => reach h k (nosO o ++ l) (acc ++ [i])
    | none => reach h k l acc
def idxOf (ρ : List Nat) (i : Nat) : Nat := ρ.idxOf i
theorem idx_back {ρ fr : List Nat} {B i : Nat} (h : ρ.contains i = true) : gB (ρ ++ fr) B (ρ.idxOf i) = i := by
  have hm : i ∈ ρ := by simpa using h
  have hl := List.idxOf_lt_length_of_mem hm
  unfold gB
  rw [List.getElem?_append_left hl, List.getElem?_eq_getElem hl]
  simp

/-- The handed objects in the callee's numbers, if each of them, and each argument, bears numbers of them alone. -/
def handed (ρ : List Nat) (vs : List V) (h : List Ho) : Option (List V × List Ho) :=
  match pickH h ρ with
  | some os => if decide ρ.Nodup && (refsL ρ.contains vs && os.all (refsO ρ.contains)) then some (renL ρ.idxOf vs, os.map (renO ρ.idxOf)) else none
  | none => none

def xDraw (P : Program) (M : Oper → TypeId → Bool) (call : Runner) (ops : Array Oper) : List Oper → List V → List Ho → List (List Nat × List Nat) → Option Sv
  | [], tm, h, ids => match okOrd ops ids.reverse with
    | true => some ⟨tm, h⟩
    | false => none
  | o :: l, tm, h, ids => match wantedV ops tm o with
    | none => none
    | some false => xDraw P M call ops l (putV tm o.dst .undef) h (([], []) :: ids)
    | some true => match opL P (M o) tm o with
      | .pure v => xDraw P M call ops l (putV tm o.dst v) h (([], []) :: ids)
      | .read i k => match (h[i]?).bind k with
        | some v => xDraw P M call ops l (putV tm o.dst v) h (([i], []) :: ids)
        | none => none
      | .write i k => match (h[i]?).bind k with
        | some (v, ob) => xDraw P M call ops l (putV tm o.dst v) (h.set i ob) (([i], [i]) :: ids)
        | none => none
      | .new v ob => xDraw P M call ops l (putV tm o.dst (v h.length)) (h ++ [ob]) (([h.length], [h.length]) :: ids)
      | .app t v => match h[t]? with
        | some .tail => xDraw P M call ops l (putV tm o.dst (v h.length)) (((h ++ [Ho.yet]).set t .dead).set h.length .tail) (([t, h.length], [t, h.length]) :: ids)
        | _ => none
      | .call f vs => match handed (reach h 1000 (nosL vs) []) vs h with
        | some (vs', hl) => match call f vs' hl with
          | some (v, hl') =>
            if (reach h 1000 (nosL vs) []).length ≤ hl'.length ∧ decide (reach h 1000 (nosL vs) [] ++ frs h.length (hl'.length - (reach h 1000 (nosL vs) []).length)).Nodup = true then
              xDraw P M call ops l (putV tm o.dst (renV (gB (reach h 1000 (nosL vs) [] ++ frs h.length (hl'.length - (reach h 1000 (nosL vs) []).length)) 0) v))
                (wrs (padY h (hl'.length - (reach h 1000 (nosL vs) []).length)) ((reach h 1000 (nosL vs) [] ++ frs h.length (hl'.length - (reach h 1000 (nosL vs) []).length)).zip (hl'.map (renO (gB (reach h 1000 (nosL vs) [] ++ frs h.length (hl'.length - (reach h 1000 (nosL vs) []).length)) 0)))))
                ((reach h 1000 (nosL vs) [] ++ frs h.length (hl'.length - (reach h 1000 (nosL vs) []).length), ((reach h 1000 (nosL vs) [] ++ frs h.length (hl'.length - (reach h 1000 (nosL vs) []).length)).zip (hl'.map (renO (gB (reach h 1000 (nosL vs) [] ++ frs h.length (hl'.length - (reach h 1000 (nosL vs) []).length)) 0)))).map (·.1)) :: ids)
            else none
          | none => none
        | none => none
      | .no => none

theorem xDraw_ok {call : Runner} (hc : Right P K call) {ops : Array Oper} {Q : Sv → Prop} {st' : Sv} (hQ : Q st') : ∀ (l : List Oper) (tm : List V) (h : List Ho) (ids : List (List Nat × List Nat)), xDraw P M call ops l tm h ids = some st' → drawV P M K ops Q l tm h ids
  | [], tm, h, ids, hx => by
    unfold xDraw at hx
    split at hx
    · rename_i ho
      cases hx
      exact ⟨ho, hQ⟩
    · cases hx
  | o :: l, tm, h, ids, hx => by
    unfold xDraw at hx
    rw [drawV_cons]
    split at hx
    · cases hx
    · rename_i hw
      rw [hw, guardD_false]
      exact xDraw_ok hc hQ l _ _ _ hx
    · rename_i hw
      rw [hw, guardD_true]
      split at hx
      · rename_i v ho
        rw [ho, stepO_pure]
        exact xDraw_ok hc hQ l _ _ _ hx
      · rename_i i k ho
        rw [ho, stepO_read]
        split at hx
        · rename_i v hv
          rw [hv]
          exact xDraw_ok hc hQ l _ _ _ hx
        · cases hx
      · rename_i i k ho
        rw [ho, stepO_write]
        split at hx
        · rename_i v ob hv
          rw [hv]
          exact xDraw_ok hc hQ l _ _ _ hx
        · cases hx
      · rename_i v ob ho
        rw [ho, stepO_new]
        exact xDraw_ok hc hQ l _ _ _ hx
      · rename_i t v ho
        rw [ho, stepO_app]
        split at hx
        · rename_i ht
          rw [ht]
          exact xDraw_ok hc hQ l _ _ _ hx
        · cases hx
      · rename_i f vs ho
        rw [ho, stepO_call]
        generalize reach h 1000 (nosL vs) [] = ρ at hx
        split at hx
        · rename_i vs' hl hh
          split at hx
          · rename_i v hl' hcall
            split at hx
            · rename_i hcond
              unfold handed at hh
              split at hh
              · rename_i os hp
                split at hh
                · rename_i hok
                  cases hh
                  simp only [Bool.and_eq_true, List.all_eq_true] at hok
                  obtain ⟨he, hs⟩ := hc _ _ _ _ _ hcall
                  refine CallP.fr ρ (hl'.length - ρ.length) he hs hcond.2 (by omega) (fun B => ?_) (fun B => ?_) (xDraw_ok hc hQ l _ _ _ hx)
                  · rw [hp, List.map_map]
                    congr 1
                    refine ((List.map_congr_left (g := id) fun o ho => ?_).trans (List.map_id os)).symm
                    exact renO_back (p := ρ.contains) (fun i hi => idx_back hi) o (hok.2.2 o ho)
                  · rw [← renL_map, renL_back (p := ρ.contains) (fun i hi => idx_back hi) vs hok.2.1]
                    exact Wk.refl
                · cases hh
              · cases hh
            · cases hx
          · cases hx
        · cases hx
      · cases hx

/-- A literal that is converted to its own type in its region (a constant text's bytes) is held as an object, too. -/
def cvM (M : Oper → TypeId → Bool) (ops : Array Oper) : Oper → TypeId → Bool := fun o t => M o t || match o.op, o.dst with
  | .buildSlice _ _ _, some d => ops.any fun o' => match o'.op with
    | .convert s s' (.tmp d') => s == t && s' == t && d' == d
    | _ => false
  | _, _ => false
def xCode (P : Program) (M : Oper → TypeId → Bool) (call : Runner) : Nat → Code → Sv → Option (Exit × Sv)
  | 0, _, _ => none
  | n + 1, .skip, st => some (.normal, st)
  | n + 1, .label _, st => some (.normal, st)
  | n + 1, .exit id, st => some (.exit id, st)
  | n + 1, .ret, st => some (.ret, st)
  | n + 1, .scope x, st => xCode P M call n x st
  | n + 1, .block id x, st => match xCode P M call n x st with
    | some (.exit id', st') => if id' = id then some (.normal, st') else some (.exit id', st')
    | r => r
  | n + 1, .seq x y, st => match xCode P M call n x st with
    | some (.normal, st') => xCode P M call n y st'
    | r => r
  | n + 1, .cond c x y, st => match evV st.tm c with
    | some (.d (.sc (.bool true))) => xCode P M call n x st
    | some (.d (.sc (.bool false))) => xCode P M call n y st
    | _ => none
  | n + 1, .loop x, st => match xCode P M call n x st with
    | some (.normal, st') => xCode P M call n (.loop x) st'
    | r => r
  | n + 1, .region _ ops false, st => match xOps P (cvM M ops) call ops ops.toList st with
    | some st' => some (.normal, st')
    | none => none
  | n + 1, .region _ ops true, st => match okR ops, P.follows .mixedOrders, xDraw P (cvM M ops) call ops ops.toList st.tm st.h [] with
    | true, true, some st' => some (.normal, st')
    | _, _, _ => none
  | _, _, _ => none

theorem xCode_ok {call : Runner} (hc : Right P K call) : ∀ (n : Nat) (c : Code) (st : Sv) (e : Exit) (st' : Sv) (Q : Exit → Sv → Prop), xCode P M call n c st = some (e, st') → Q e st' → WPV P K n0 c Q st
  | 0, c, st, e, st', Q, hx, _ => by simp [xCode] at hx
  | n + 1, c, st, e, st', Q, hx, hQ => by
    unfold xCode at hx
    split at hx
    · simp at *
    · cases hx; exact .skip hQ
    · cases hx; exact .label hQ
    · cases hx; exact .exit hQ
    · cases hx; exact .ret hQ
    · rename_i h; cases h; exact .scope (xCode_ok hc n _ _ _ _ Q hx hQ)
    · rename_i h; cases h
      refine .block ?_
      split at hx
      · rename_i id' st1 h1
        refine xCode_ok hc n _ _ _ _ _ h1 ?_
        unfold blockV
        dsimp only
        split at hx
        · rename_i he; cases hx; rw [if_pos he]; exact hQ
        · rename_i he; cases hx; rw [if_neg he]; exact hQ
      · rename_i h1
        refine xCode_ok hc n _ _ e st' _ hx ?_
        unfold blockV
        cases e with
        | exit id' => exact absurd hx (h1 _ _)
        | _ => exact hQ
    · rename_i h; cases h
      refine .seq ?_
      split at hx
      · rename_i st1 h1
        refine xCode_ok hc n _ _ _ _ _ h1 ?_
        exact xCode_ok hc n _ _ _ _ _ hx hQ
      · rename_i h1
        refine xCode_ok hc n _ _ e st' _ hx ?_
        unfold thenV
        cases e with
        | normal => exact absurd hx (h1 _)
        | _ => exact hQ
    · rename_i h; cases h
      split at hx
      · rename_i h1; exact .cond h1 (xCode_ok hc n _ _ _ _ _ hx hQ)
      · rename_i h1; exact .cond h1 (xCode_ok hc n _ _ _ _ _ hx hQ)
      · cases hx
    · rename_i h; cases h
      refine .loop ?_
      split at hx
      · rename_i st1 h1
        refine xCode_ok hc n _ _ _ _ _ h1 ?_
        exact xCode_ok hc n _ _ _ _ _ hx hQ
      · rename_i h1
        refine xCode_ok hc n _ _ e st' _ hx ?_
        unfold thenV
        cases e with
        | normal => exact absurd hx (h1 _)
        | _ => exact hQ
    · rename_i h; cases h
      split at hx
      · rename_i st1 h1
        cases hx
        exact .region (xOps_ok hc hQ _ _ h1)
      · cases hx
    · rename_i h; cases h
      split at hx
      · rename_i st1 h1 h2 h3
        cases hx
        exact .draw h2 h1 (xDraw_ok hc hQ _ _ _ _ h3)
      · cases hx
    · cases hx

theorem enters_by {f : FuncId} {fn : Func} {c : Code} (hf : P.funcs[f]? = some fn) (hname : (fn.name == "runtime.NumGoroutine") = false) (hb : fn.body = some c) : Enters P f := by
  intro args w
  have h1 : fn.name ≠ "runtime.NumGoroutine" := by simpa using hname
  simp [callFunc, hf, h1, hb, mark]
def noX : Runner := fun _ _ _ => none
theorem noX_ok : Right P K noX := fun _ _ _ _ _ h => by cases h
/-- X: calls whose contracts are given. -/
def xFun (P : Program) (M : Oper → TypeId → Bool) (X : Runner) : Nat → Runner
  | 0, _, _, _ => none
  | n + 1, f, vs, h => match X f vs h with
    | some r => some r
    | none => match P.funcs[f]? with
    | some fn => match fn.body with
      | some c => match xCode P M (xFun P M X n) 100000 c ⟨vs ++ List.replicate (fn.ntmps - vs.length) .undef, h⟩ with
        | some (.normal, st) => match resultV P st fn.results.toList with
          | some v => some (v, st.h)
          | none => none
        | some (.ret, st) => match resultV P st fn.results.toList with
          | some v => some (v, st.h)
          | none => none
        | _ => none
      | none => none
    | none => none
theorem xFun_ok {X : Runner} (hX : Right P K X) (hE : (P.funcs.all fun fn => !(fn.name == "runtime.NumGoroutine")) = true) : ∀ n, Right P K (xFun P M X n)
  | 0 => fun f vs h v h' hx => by simp [xFun] at hx
  | n + 1 => fun f vs h v h' hx => by
    unfold xFun at hx
    split at hx
    · rename_i r hr
      cases hx
      exact hX _ _ _ _ _ hr
    split at hx
    · rename_i fn hf
      split at hx
      · rename_i c hb
        have hn : (fn.name == "runtime.NumGoroutine") = false := by
          rw [Array.all_eq_true] at hE
          obtain ⟨hl, e⟩ := Array.getElem?_eq_some_iff.1 hf
          have := hE f hl
          rw [e] at this
          simpa using this
        refine ⟨enters_by hf hn hb, ?_⟩
        · refine Sp.of_body hf hb fun Q hQ => ?_
          split at hx
          · rename_i st h1
            split at hx
            · rename_i u hr
              cases hx
              exact xCode_ok (xFun_ok hX hE n) _ _ _ _ _ _ h1 (hQ st v hr ⟨rfl, rfl⟩).1
            · cases hx
          · rename_i st h1
            split at hx
            · rename_i u hr
              cases hx
              exact xCode_ok (xFun_ok hX hE n) _ _ _ _ _ _ h1 (hQ st v hr ⟨rfl, rfl⟩).2
            · cases hx
          · cases hx
      · cases hx
    · cases hx

/-- Does a closed call answer true? -/
def xTrue (P : Program) (M : Oper → TypeId → Bool) (X : Runner) (n : Nat) (f : FuncId) : Bool := match xFun P M X n f [] [] with
  | some (.d (.sc (.bool true)), _) => true
  | _ => false
theorem Sp.xTrue_ {f : FuncId} {X : Runner} (n : Nat) (hX : Right P K X) (hE : (P.funcs.all fun fn => !(fn.name == "runtime.NumGoroutine")) = true) (hx : xTrue P M X n f = true) (h : List Ho) : Sp P K f [] h fun u hh => u = .sc (.bool true) ∧ hh = h := by
  unfold xTrue at hx
  split at hx
  · rename_i h1 hx1
    exact ((xFun_ok (K := K) hX hE n) _ _ _ _ _ hx1).2.pure_ (fun _ => rfl) (fun _ => rfl) (fun v h2 ⟨e, _⟩ => by rw [e]; exact Wk.refl) h
  · cases hx
end Go.Proofs.YtonllhjmoenckaaDoor
