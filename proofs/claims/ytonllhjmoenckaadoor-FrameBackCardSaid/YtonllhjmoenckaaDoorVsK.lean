/- A walk over states as pure values: code. No program stands here. -/
import Derived.Test.YtonllhjmoenckaaDoorVsJ
import Derived.Scope
import Derived.LoopN
import Derived.IntWalk
namespace Go.Proofs.YtonllhjmoenckaaDoor
open Go Go.RowKit
set_option linter.unusedVariables false
set_option linter.unusedSimpArgs false
variable {F : Fr} {P : Program} {M : Oper → TypeId → Bool} {K : Nat → Obj → Prop} {n0 : Nat}

structure Sv where
  tm : List V
  h : List Ho

def putV (tm : List V) (d : Option Tmp) (v : V) : List V := match d with
  | some t => tm.set t v
  | none => tm

/-- How a frame and memory bear a state, since a function was entered. -/
def RelA (F : Fr) (φ0 : List Pl) (w0 : World) (st : Sv) (a : Act) (w : World) : Prop :=
  ∃ φ, Ext φ0 w0 φ w ∧ Inv F φ w st.h ∧ RelT F φ w a.tmps st.tm ∧ a.defers = []

def okE : Exit → Bool
  | .goto _ | .outgrown => false
  | _ => true

/-- Code that is carried out in a state ends as Q says. -/
def WPV (P : Program) (K : Nat → Obj → Prop) (n0 : Nat) (c : Code) (Q : Exit → Sv → Prop) (st : Sv) : Prop :=
  ∀ (F : Fr) (φ0 : List Pl) (w0 : World) (h0 : List Ho), F.known = K → h0.length = n0 → Inv F φ0 w0 h0 → ∀ a w, RelA F φ0 w0 st a w →
    c.wp P (fun e a' w' => okE e = true ∧ ∃ st', RelA F φ0 w0 st' a' w' ∧ Q e st') a w

theorem WPV.mono {c : Code} {Q Q' : Exit → Sv → Prop} {st : Sv} (h : WPV P K n0 c Q st) (hq : ∀ e st, Q e st → Q' e st) : WPV P K n0 c Q' st :=
  fun F φ0 w0 h0 hK hn hi a w hr => wp_mono (h F φ0 w0 h0 hK hn hi a w hr) fun e a w ⟨ho, st', h1, h2⟩ => ⟨ho, st', h1, hq e st' h2⟩

/-- Two ways. -/
def Br (b : Bool) (A B : Prop) : Prop := (b = true → A) ∧ (b = false → B)
theorem Br.mk {b : Bool} {A B : Prop} (h : b = true → A) (h' : b = false → B) : Br b A B := ⟨h, h'⟩
theorem Br_true {A B : Prop} : Br true A B = A := by simp [Br]
theorem Br_false {A B : Prop} : Br false A B = B := by simp [Br]
theorem Br_not {b : Bool} {A B : Prop} : Br (!b) A B = Br b B A := by cases b <;> simp [Br]
theorem Br_congr {b b' : Bool} {A A' B B' : Prop} (h : b = b') (hA : b' = true → A = A') (hB : b' = false → B = B') : Br b A B = Br b' A' B' := by
  subst h
  cases b
  · rw [Br_false, Br_false, hB rfl]
  · rw [Br_true, Br_true, hA rfl]
def boolV : Option V → Option Bool
  | some (.d (.sc (.bool b))) => some b
  | _ => none
theorem boolV_some {o : Option V} {b : Bool} (h : boolV o = some b) : o = some (.sc (.bool b)) := by
  unfold boolV at h
  split at h <;> cases h
  rfl
def brO (o : Option Bool) (A B : Prop) : Prop := match o with
  | some b => Br b A B
  | none => False
theorem brO_congr {o o' : Option Bool} {A B : Prop} (h : o = o') : brO o A B = brO o' A B := by rw [h]
theorem brO_some {b : Bool} {A B : Prop} : brO (some b) A B = Br b A B := rfl

def thenV (next : Sv → Prop) (Q : Exit → Sv → Prop) : Exit → Sv → Prop
  | .normal, st => next st
  | e, st => Q e st
def blockV (id : Nat) (Q : Exit → Sv → Prop) : Exit → Sv → Prop
  | .exit id', st => if id' = id then Q .normal st else Q (.exit id') st
  | e, st => Q e st

theorem exitTo_len : ∀ (id : Nat) (k k' : List Item), exitTo id k = some k' → k'.length ≤ k.length
  | id, [], k', h => by simp [exitTo] at h
  | id, x :: k, k', h => by
    have ih := exitTo_len id k k'
    have h2 : exitTo id (x :: k) = exitTo id k ∨ exitTo id (x :: k) = some k := by
      cases x <;> simp only [exitTo, true_or]
      split
      · exact .inr rfl
      · exact .inl rfl
    rcases h2 with e | e
    · rw [e] at h
      have := ih h
      simp; omega
    · rw [e] at h; cases h; simp

theorem Steps.tail {m m1 m' : Machine} (h : Steps P m m') (h1 : step P m = .next m1) (hne : m ≠ m') : Steps P m1 m' := by
  obtain ⟨n, hn⟩ := h
  cases n with
  | zero => simp only [runN] at hn; cases hn; exact absurd rfl hne
  | succ n =>
    simp only [runN, h1] at hn
    exact ⟨n, hn⟩

theorem wp_loop_unroll {c : Code} {Q : Exit → Act → World → Prop} {a : Act} {w : World} (hg : ∀ e a w, Q e a w → okE e = true) (h : c.wp P (Exit.then ((Code.loop c).wp P Q) Q) a w) : (Code.loop c).wp P Q a w := by
  intro b k cs
  obtain ⟨e, a₁, w₁, hq, harr⟩ := h b (.inLoop c :: k) cs
  cases e with
  | normal =>
    obtain ⟨e₂, a₂, w₂, hq₂, harr₂⟩ := hq b k cs
    have hm : Steps P (lone (b.at a (.code (.loop c) :: k)) cs w) (lone (b.at a₁ (.code c :: .inLoop c :: k)) cs w₁) := .head step_loop (Steps.trans harr (.one step_inLoop))
    have hs := step_loop (P := P) (b := b) (a := a₁) (k := k) (cs := cs) (w := w₁) (c := c)
    refine ⟨e₂, a₂, w₂, hq₂, .of_steps hm ?_⟩
    have hok := hg _ _ _ hq₂
    have todo : ∀ {a a' : Act} {t t' : List Item} {w w' : World}, lone (b.at a t) cs w = lone (b.at a' t') cs w' → t = t' := fun e => by
      have h1 := congrArg (fun m => (m.gs[0]?).map (·.frame.todo)) e
      simpa [lone, Frame.at] using h1
    cases e₂ with
    | normal => exact Steps.tail harr₂ hs fun e => by have := congrArg List.length (todo e); simp at this
    | exit id =>
      refine fun k' hk => Steps.tail (harr₂ k' hk) hs fun e => ?_
      have h1 := todo e
      have h2 := exitTo_len id k k' hk
      rw [← h1] at h2
      simp at h2
      omega
    | goto l => simp [okE] at hok
    | ret =>
      obtain ⟨t, ht⟩ := harr₂
      exact ⟨t, Steps.tail ht hs fun e => by
        have h1 := congrArg (fun m => (m.gs[0]?).map (·.frame.mode)) e
        simp [lone, Frame.at] at h1⟩
    | panic ch =>
      obtain ⟨t, ht⟩ := harr₂
      exact ⟨t, Steps.tail ht hs fun e => by
        have h1 := congrArg (fun m => (m.gs[0]?).map (·.frame.mode)) e
        simp [lone, Frame.at] at h1⟩
    | outgrown => simp [okE] at hok
  | exit id => exact ⟨_, a₁, w₁, hq, .of_steps (.one step_loop) (.pass (x := .inLoop c) rfl (fun _ _ => .inl (by simp)) harr)⟩
  | goto l => exact ⟨_, a₁, w₁, hq, .of_steps (.one step_loop) (.pass (x := .inLoop c) rfl (fun _ _ => .inl (by simp)) harr)⟩
  | ret => exact ⟨_, a₁, w₁, hq, .of_steps (.one step_loop) (.pass (x := .inLoop c) rfl (fun _ _ => .inl (by simp)) harr)⟩
  | panic ch => exact ⟨_, a₁, w₁, hq, .of_steps (.one step_loop) (.pass (x := .inLoop c) rfl (fun _ _ => .inl (by simp)) harr)⟩
  | outgrown => exact ⟨_, a₁, w₁, hq, .of_steps (.one step_loop) (.pass (x := .inLoop c) rfl (fun _ _ => .inl (by simp)) harr)⟩

theorem WPV.skip {Q : Exit → Sv → Prop} {st : Sv} (h : Q .normal st) : WPV P K n0 .skip Q st :=
  fun F φ0 w0 h0 hK hn hi a w hr => wp_skip ⟨rfl, st, hr, h⟩
theorem WPV.label {l : Nat} {Q : Exit → Sv → Prop} {st : Sv} (h : Q .normal st) : WPV P K n0 (.label l) Q st :=
  fun F φ0 w0 h0 hK hn hi a w hr => wp_label ⟨rfl, st, hr, h⟩
theorem WPV.exit {id : Nat} {Q : Exit → Sv → Prop} {st : Sv} (h : Q (.exit id) st) : WPV P K n0 (.exit id) Q st :=
  fun F φ0 w0 h0 hK hn hi a w hr => wp_exit ⟨rfl, st, hr, h⟩
theorem WPV.ret {Q : Exit → Sv → Prop} {st : Sv} (h : Q .ret st) : WPV P K n0 .ret Q st :=
  fun F φ0 w0 h0 hK hn hi a w hr => wp_ret ⟨rfl, st, hr, h⟩
theorem WPV.seq {x y : Code} {Q : Exit → Sv → Prop} {st : Sv} (h : WPV P K n0 x (thenV (WPV P K n0 y Q) Q) st) : WPV P K n0 (.seq x y) Q st :=
  fun F φ0 w0 h0 hK hn hi a w hr => wp_seq (wp_mono (h F φ0 w0 h0 hK hn hi a w hr) fun e a w ⟨ho, st', h1, h2⟩ => by
    cases e with
    | normal => exact h2 F φ0 w0 h0 hK hn hi a w h1
    | _ => exact ⟨ho, st', h1, h2⟩)
theorem WPV.block {id : Nat} {x : Code} {Q : Exit → Sv → Prop} {st : Sv} (h : WPV P K n0 x (blockV id Q) st) : WPV P K n0 (.block id x) Q st :=
  fun F φ0 w0 h0 hK hn hi a w hr => wp_block (wp_mono (h F φ0 w0 h0 hK hn hi a w hr) fun e a w ⟨ho, st', h1, h2⟩ => by
    cases e with
    | exit id' =>
      simp only [Exit.inBlock]
      simp only [blockV] at h2
      split
      · rename_i e; rw [if_pos e] at h2; exact ⟨rfl, st', h1, h2⟩
      · rename_i e; rw [if_neg e] at h2; exact ⟨rfl, st', h1, h2⟩
    | _ => exact ⟨ho, st', h1, h2⟩)
theorem WPV.scope {x : Code} {Q : Exit → Sv → Prop} {st : Sv} (h : WPV P K n0 x Q st) : WPV P K n0 (.scope x) Q st :=
  fun F φ0 w0 h0 hK hn hi a w hr => wp_scope_straight (wp_mono (h F φ0 w0 h0 hK hn hi a w hr) fun e a w ⟨ho, st', h1, h2⟩ => by
    cases e with
    | goto l => simp [okE] at ho
    | _ => exact ⟨ho, st', h1, h2⟩)
theorem WPV.cond {c : Operand} {x y : Code} {Q : Exit → Sv → Prop} {st : Sv} {t : Bool} (hc : evV st.tm c = some (.sc (.bool t))) (h : WPV P K n0 (if t then x else y) Q st) : WPV P K n0 (.cond c x y) Q st :=
  fun F φ0 w0 h0 hK hn hi a w hr => by
    obtain ⟨φ, he, hiv, ht, hd⟩ := id hr
    exact wp_cond (evV_den ht hc).sc.1 (h F φ0 w0 h0 hK hn hi a w hr)
/-- A loop: one more round, then the loop. -/
theorem WPV.loop {x : Code} {Q : Exit → Sv → Prop} {st : Sv} (h : WPV P K n0 x (thenV (WPV P K n0 (.loop x) Q) Q) st) : WPV P K n0 (.loop x) Q st :=
  fun F φ0 w0 h0 hK hn hi a w hr => wp_loop_unroll (fun e a w h => h.1) (wp_mono (h F φ0 w0 h0 hK hn hi a w hr) fun e a w ⟨ho, st', h1, h2⟩ => by
    cases e with
    | normal => exact h2 F φ0 w0 h0 hK hn hi a w h1
    | _ => exact ⟨ho, st', h1, h2⟩)

/-! ### Operations in the text's order -/
def yieldedV (ops : Array Oper) (tm : List V) (j : Nat) : Option (Option Bool) := match (ops[j]?).bind (·.dst) with
  | some t => match tm[t]? with
    | some (.d (.sc (.bool b))) => some (some b)
    | some (.tup []) => some none
    | _ => none
  | none => some none
def wantedV (ops : Array Oper) (tm : List V) (o : Oper) : Option Bool := match o.guard with
  | none => some true
  | some (j, want) => (yieldedV ops tm j).map fun y => y == some want

theorem wantedV_den {φ : List Pl} {w : World} {a : Act} {tm : List V} (ht : RelT F φ w a.tmps tm) {ops : Array Oper} {o : Oper} {b : Bool} (h : wantedV ops tm o = some b) : Region.wanted o (yielded ops a.tmps) = b := by
  unfold wantedV at h
  unfold Region.wanted
  split at h
  · rename_i hg; cases h; rw [hg]
  · rename_i j want hg
    obtain ⟨y, hy, rfl⟩ := Option.map_eq_some_iff.1 h
    rw [hg]
    simp only []
    congr 1
    unfold yieldedV at hy
    unfold yielded
    split at hy
    · rename_i t hd
      rw [hd]
      simp only [Option.bind_some]
      have hs : ∀ v, tm[t]? = some v → ∃ r, a.tmps[t]? = some r ∧ Den F φ w r v := fun v hv => by
        obtain ⟨r, hr⟩ := ofLt (xs := a.tmps) (i := t) (by rw [ht.1]; exact get_lt hv)
        exact ⟨r, hr, ht.2 t r v hr hv⟩
      split at hy
      · rename_i b hv; cases hy
        obtain ⟨r, hr, hd⟩ := hs _ hv
        rw [hr, hd.sc.1]
      · rename_i hv; cases hy
        obtain ⟨r, hr, hd⟩ := hs _ hv
        obtain ⟨rs, rfl, _⟩ := hd.tupInv
        rw [hr]
      · cases hy
    · rename_i hd; cases hy; rw [hd]; rfl

theorem RelT.put {φ : List Pl} {w : World} {a : Act} {tm : List V} (ht : RelT F φ w a.tmps tm) {d : Option Tmp} {r : Value} {v : V} (hd : Den F φ w r v) : RelT F φ w (a.put d r).tmps (putV tm d v) := by
  cases d with
  | none => exact ht
  | some d =>
    refine ⟨by simp [Act.put, putV, ht.1], fun t x y hx hy => ?_⟩
    simp only [Act.put, putV] at hx hy
    rw [Array.getElem?_setIfInBounds] at hx
    rcases get_set hy with ⟨rfl, rfl, _⟩ | ⟨hne, hy⟩
    · rw [if_pos rfl] at hx
      split at hx
      · cases hx; exact hd
      · cases hx
    · rw [if_neg (fun e => hne e.symm)] at hx
      exact ht.2 t x y hx hy
theorem RelT.ext {φ φ' : List Pl} {w w' : World} (he : Ext φ w φ' w') {tmps : Array Value} {tm : List V} (ht : RelT F φ w tmps tm) : RelT F φ' w' tmps tm :=
  ⟨ht.1, fun t r v h1 h2 => (ht.2 t r v h1 h2).ext he⟩

/-- What the arguments are may be told less well. -/
def Wk (vs vs' : List V) : Prop := ∀ (F : Fr) (φ : List Pl) (w : World) (rs : List Value), DenL F φ w rs vs → DenL F φ w rs vs'
theorem Wk.refl {vs : List V} : Wk vs vs := fun _ _ _ _ h => h
theorem Wk.nil : Wk [] [] := fun _ _ _ _ h => h
theorem Wk.same {v : V} {vs vs' : List V} (h : Wk vs vs') : Wk (v :: vs) (v :: vs') := fun F φ w rs hd => by
  cases hd with
  | cons h1 h2 => exact .cons h1 (h F φ w _ h2)
theorem Wk.own {k t : Nat} {es : List (List D)} {vs vs' : List V} (h : Wk vs vs') : Wk (.own k es t :: vs) (.sl k es :: vs') := fun F φ w rs hd => by
  cases hd with
  | cons h1 h2 => exact .cons (.d (esOf_den (k := k) (v := .own k es t) (by simp [esOf]) h1)) (h F φ w _ h2)
theorem Wk.full {k : Nat} {es : List (List D)} {vs vs' : List V} (h : Wk vs vs') : Wk (.full k es :: vs) (.sl k es :: vs') := fun F φ w rs hd => by
  cases hd with
  | cons h1 h2 => exact .cons (.d (esOf_den (k := k) (v := .full k es) (by simp [esOf]) h1)) (h F φ w _ h2)
theorem Wk.null {k : Nat} {vs vs' : List V} (h : Wk vs vs') : Wk (.sc (.slice none 0 0) :: vs) (.sl k [] :: vs') := fun F φ w rs hd => by
  cases hd with
  | cons h1 h2 => exact .cons (by rw [h1.sc.1]; exact .d .nil) (h F φ w _ h2)
theorem Sp.wk {f : FuncId} {vs vs' : List V} {h : List Ho} {R : V → List Ho → Prop} (hs : Sp P K f vs' h R) (hw : Wk vs vs') : Sp P K f vs h R :=
  fun F φ w args hK hi hd => hs F φ w args hK hi (hw F φ w _ hd)

/-- What a call leaves to be shown. -/
def CallV (P : Program) (K : Nat → Obj → Prop) (f : FuncId) (vs : List V) (st : Sv) (dst : Option Tmp) (N : Sv → Prop) : Prop :=
  Enters P f ∧ Sp P K f vs st.h fun v h' => N ⟨putV st.tm dst v, h'⟩
theorem CallV.to {f : FuncId} {vs : List V} {st : Sv} {dst : Option Tmp} {N : Sv → Prop} {v : V} (he : Enters P f) (hs : Sp P K f vs st.h fun u hh => u = v ∧ hh = st.h) (hr : N ⟨putV st.tm dst v, st.h⟩) : CallV P K f vs st dst N :=
  ⟨he, hs.mono fun u hh ⟨e1, e2⟩ => by rw [e1, e2]; exact hr⟩
theorem CallV.mk {f : FuncId} {vs : List V} {st : Sv} {dst : Option Tmp} {N : Sv → Prop} {R : V → List Ho → Prop} (he : Enters P f) (hs : Sp P K f vs st.h R) (hr : ∀ u hh, R u hh → N ⟨putV st.tm dst u, hh⟩) : CallV P K f vs st dst N :=
  ⟨he, hs.mono hr⟩

/-- What a step leaves to be shown. -/
def resV (P : Program) (K : Nat → Obj → Prop) (st : Sv) (dst : Option Tmp) (Q : Sv → Prop) : Res → Prop
  | .val v h' => Q ⟨putV st.tm dst v, trimY h'⟩
  | .call f vs => CallV P K f vs st dst Q
  | .no => False
def opsV (P : Program) (M : Oper → TypeId → Bool) (K : Nat → Obj → Prop) (ops : Array Oper) (Q : Sv → Prop) : List Oper → Sv → Prop
  | [], st => Q st
  | o :: l, st => brO (wantedV ops st.tm o) (resV P K st o.dst (opsV P M K ops Q l) (opV P (M o) st.tm (st.h ++ [.yet]) st.h.length o)) (opsV P M K ops Q l ⟨putV st.tm o.dst .undef, st.h⟩)

/-! The same, so that a rewriter does not look into what comes later. -/
def CallO (P : Program) (M : Oper → TypeId → Bool) (K : Nat → Obj → Prop) (ops : Array Oper) (N : Sv → Prop) (l : List Oper) (f : FuncId) (vs : List V) (st : Sv) (dst : Option Tmp) : Prop :=
  CallV P K f vs st dst (opsV P M K ops N l)
def resO (P : Program) (M : Oper → TypeId → Bool) (K : Nat → Obj → Prop) (ops : Array Oper) (N : Sv → Prop) (l : List Oper) (st : Sv) (dst : Option Tmp) (r : Res) : Prop :=
  resV P K st dst (opsV P M K ops N l) r
section
variable {ops : Array Oper} {N : Sv → Prop} {l : List Oper} {st : Sv} {dst : Option Tmp} {o : Oper} {v : V} {h : List Ho} {f : FuncId} {vs : List V}
theorem opsV.here (h : opsV P M K ops N l st) : opsV P M K ops N l st := h
theorem resO.here {r : Res} (h : resO P M K ops N l st dst r) : resO P M K ops N l st dst r := h
theorem brO.here {b : Option Bool} {A B : Prop} (h : brO b A B) : brO b A B := h
theorem opsV_nil : opsV P M K ops N [] st = N st := rfl
def guardO (P : Program) (M : Oper → TypeId → Bool) (K : Nat → Obj → Prop) (ops : Array Oper) (N : Sv → Prop) (l : List Oper) (o : Oper) (st : Sv) (b : Option Bool) : Prop :=
  brO b (resO P M K ops N l st o.dst (opV P (M o) st.tm (st.h ++ [.yet]) st.h.length o)) (opsV P M K ops N l ⟨putV st.tm o.dst .undef, st.h⟩)
theorem opsV_cons : opsV P M K ops N (o :: l) st = guardO P M K ops N l o st (wantedV ops st.tm o) := rfl
theorem guardO_true : guardO P M K ops N l o st (some true) = resO P M K ops N l st o.dst (opV P (M o) st.tm (st.h ++ [.yet]) st.h.length o) := Br_true
theorem guardO_false : guardO P M K ops N l o st (some false) = opsV P M K ops N l ⟨putV st.tm o.dst .undef, st.h⟩ := Br_false
theorem guardO.mk {b : Bool} (h1 : b = true → resO P M K ops N l st o.dst (opV P (M o) st.tm (st.h ++ [.yet]) st.h.length o)) (h2 : b = false → opsV P M K ops N l ⟨putV st.tm o.dst .undef, st.h⟩) : guardO P M K ops N l o st (some b) := ⟨h1, h2⟩
theorem resO_val : resO P M K ops N l st dst (.val v h) = opsV P M K ops N l ⟨putV st.tm dst v, trimY h⟩ := rfl
theorem resO_call : resO P M K ops N l st dst (.call f vs) = CallO P M K ops N l f vs st dst := rfl
theorem resO_no : resO P M K ops N l st dst .no = False := rfl
theorem CallO.to {vs' : List V} (he : Enters P f) (hs : Sp P K f vs' st.h fun u hh => u = v ∧ hh = st.h) (hw : Wk vs vs') (hr : opsV P M K ops N l ⟨putV st.tm dst v, st.h⟩) : CallO P M K ops N l f vs st dst := CallV.to he (hs.wk hw) hr
theorem CallO.by_ {vs' : List V} {R : V → List Ho → Prop} (he : Enters P f) (hs : Sp P K f vs' st.h R) (hw : Wk vs vs') (hr : ∀ u hh, R u hh → opsV P M K ops N l ⟨putV st.tm dst u, hh⟩) : CallO P M K ops N l f vs st dst := CallV.mk he (hs.wk hw) hr
end

theorem put_defers (a : Act) (d : Option Tmp) (v : Value) : (a.put d v).defers = a.defers := by cases d <;> rfl

theorem opsV_sound {ops : Array Oper} {Q : Exit → Sv → Prop} (F : Fr) (φ0 : List Pl) (w0 : World) (h0 : List Ho) (hK : F.known = K) (hi0 : Inv F φ0 w0 h0) : ∀ (l : List Oper) (st : Sv) (a : Act) (w : World),
    opsV P M K ops (Q .normal) l st → RelA F φ0 w0 st a w → wpList P ops (fun e a' w' => okE e = true ∧ ∃ st', RelA F φ0 w0 st' a' w' ∧ Q e st') l a w
  | [], st, a, w, h, hr => ⟨rfl, st, hr, h⟩
  | o :: l, st, a, w, h, hr => by
    obtain ⟨φ, he, hi, ht, hdf⟩ := hr
    unfold opsV brO at h
    split at h
    case h_2 => exact h.elim
    rename_i b hw
    obtain ⟨hA, hB⟩ := h
    cases b with
    | true =>
      have h := hA rfl
      clear hA hB
      unfold wpList
      rw [if_pos (wantedV_den ht hw)]
      refine .inl ?_
      have next : ∀ {φ' : List Pl} {w' : World} {h' : List Ho} {u : Value} {v : V}, Ext φ w φ' w' → Inv F φ' w' h' → Den F φ' w' u v → opsV P M K ops (Q .normal) l ⟨putV st.tm o.dst v, h'⟩ →
          wpList P ops (fun e a' w' => okE e = true ∧ ∃ st', RelA F φ0 w0 st' a' w' ∧ Q e st') l (a.put o.dst u) w' := fun he' hi' hd hq =>
        opsV_sound F φ0 w0 h0 hK hi0 l _ _ _ hq ⟨_, he.trans hi0 he', hi', (ht.ext he').put hd, by rw [put_defers]; exact hdf⟩
      unfold Oper.wp
      have hi1 := hi.reserve
      have he1 := Ext.reserve φ w
      have ht1 := ht.ext he1
      have hn1 : (φ ++ [Pl.yet])[st.h.length]? = some .yet := by rw [← hi.len]; simp
      cases hres : opV P (M o) st.tm (st.h ++ [.yet]) st.h.length o with
      | val v h' =>
        rw [hres] at h
        have hg := opV_val hi1 hn1 ht1 hres
        have nxt : ∀ {φ' : List Pl} {w' : World} {u : Value}, Ext (φ ++ [.yet]) w φ' w' → Inv F φ' w' h' → Den F φ' w' u v →
            wpList P ops (fun e a' w' => okE e = true ∧ ∃ st', RelA F φ0 w0 st' a' w' ∧ Q e st') l (a.put o.dst u) w' := fun e1 i1 d1 => by
          have e2 := he1.trans hi e1
          have hl := e1.len
          simp only [List.length_append, List.length_cons, List.length_nil] at hl
          obtain ⟨φ2, h1, h2, h3⟩ := trim_all e2 (by omega) i1
          exact next h1 h2 (h3 d1) h
        cases hrun : (execOp a.eval o).run P w with
        | halt x w' => rw [hrun] at hg; exact hg.elim
        | ok n w' =>
          rw [hrun] at hg
          cases n <;> simp only [Gd] at hg
          · obtain ⟨φ', h1, h2, h3⟩ := hg
            exact nxt h1 h2 h3
          · obtain ⟨rfl, φ', h1, h2⟩ := hg
            exact nxt h1 h2 den_undef
          · refine Calls.mono hg ?_
            rintro e w'' ⟨u, φ', rfl, h1, h2, h3⟩
            exact nxt h1 h2 h3
      | call f vs =>
        rw [hres] at h
        obtain ⟨hen, hsp⟩ := h
        obtain ⟨args, hrun, hd⟩ := opV_call ht hres hen
        rw [hrun]
        refine (hsp F φ w args hK hi hd).mono ?_
        rintro e w' ⟨u, φ', v, h', rfl, h1, h2, h3, h4⟩
        exact next h1 h2 h3 h4
      | no => rw [hres] at h; exact h.elim
    | false =>
      have h := hB rfl
      unfold wpList
      rw [if_neg (by rw [wantedV_den ht hw]; simp)]
      exact opsV_sound F φ0 w0 h0 hK hi0 l _ _ _ h ⟨φ, he, hi, ht.put den_undef, by rw [put_defers]; exact hdf⟩

theorem WPV.region {id : Nat} {ops : Array Oper} {Q : Exit → Sv → Prop} {st : Sv} (h : opsV P M K ops (Q .normal) ops.toList st) : WPV P K n0 (.region id ops false) Q st :=
  fun F φ0 w0 h0 hK hn hi a w hr => wp_region_list (opsV_sound F φ0 w0 h0 hK hi _ st a w h hr)

/-! ### Numbers in their kind -/
theorem wr_i64 {n : Int} (h : -9223372036854775808 ≤ n) (h' : n < 9223372036854775808) : IntKind.i64.wrap n = n := by
  rw [IntKind.wrap_i64]; omega
theorem wr_u64 {n : Int} (h : 0 ≤ n) (h' : n < 18446744073709551616) : IntKind.u64.wrap n = n := by
  simp [IntKind.wrap, IntKind.bits, IntKind.signed]
  omega
theorem wr_u32 {n : Int} (h : 0 ≤ n) (h' : n < 4294967296) : IntKind.u32.wrap n = n := by
  simp [IntKind.wrap, IntKind.bits, IntKind.signed]
  omega
theorem wr_u8 {n : Int} (h : 0 ≤ n) (h' : n < 256) : IntKind.u8.wrap n = n := by
  simp [IntKind.wrap, IntKind.bits, IntKind.signed]
  omega

/-! ### Step by step: what follows stands behind a name -/
theorem WPV.seqK {x y : Code} {Q : Exit → Sv → Prop} {st : Sv} (h : ∀ N : Sv → Prop, (∀ st, WPV P K n0 y Q st → N st) → WPV P K n0 x (thenV N Q) st) : WPV P K n0 (.seq x y) Q st :=
  .seq (h _ fun _ h => h)
/-- Both ways: it is not known which. -/
structure Both (A B : Prop) : Prop where
  l : A
  r : B
def condV (o : Option V) (A B : Prop) : Prop := match o with
  | some (.d (.sc (.bool b))) => Br b A B
  | some .ub => Both A B
  | _ => False
theorem condV.here {o : Option V} {A B : Prop} (h : condV o A B) : condV o A B := h
theorem condV_bool {b : Bool} {A B : Prop} : condV (some (.d (.sc (.bool b)))) A B = Br b A B := rfl
theorem condV_ub {A B : Prop} : condV (some .ub) A B = Both A B := rfl
theorem WPV.condU {c : Operand} {x y : Code} {Q : Exit → Sv → Prop} {st : Sv} (hc : evV st.tm c = some .ub) (h : WPV P K n0 x Q st) (h' : WPV P K n0 y Q st) : WPV P K n0 (.cond c x y) Q st :=
  fun F φ0 w0 h0 hK hn hi a w hr => by
    obtain ⟨φ, he, hiv, ht, hd⟩ := id hr
    have hden := evV_den ht hc
    generalize hv : a.eval c = v at hden
    cases hden with
    | @ub b =>
      refine wp_cond hv ?_
      cases b
      · exact h' F φ0 w0 h0 hK hn hi a w hr
      · exact h F φ0 w0 h0 hK hn hi a w hr
theorem WPV.condK {c : Operand} {x y : Code} {Q : Exit → Sv → Prop} {st : Sv} (h : ∀ A : Prop, (WPV P K n0 x Q st → A) → ∀ B : Prop, (WPV P K n0 y Q st → B) → condV (evV st.tm c) A B) : WPV P K n0 (.cond c x y) Q st := by
  have h := h _ (fun h => h) _ (fun h => h)
  unfold condV at h
  split at h
  · rename_i t hc
    obtain ⟨h1, h2⟩ := h
    refine .cond hc ?_
    cases t
    · exact h2 rfl
    · exact h1 rfl
  · rename_i hc
    exact .condU hc h.l h.r
  · exact h.elim
theorem WPV.regionK {id : Nat} {ops : Array Oper} {Q : Exit → Sv → Prop} {st : Sv} (h : ∀ N : Sv → Prop, (∀ st, Q .normal st → N st) → opsV P M K ops N ops.toList st) : WPV P K n0 (.region id ops false) Q st :=
  .region (h _ fun _ h => h)

/-! ### A function's results -/
def resultsV (P : Program) (tm : List V) (h : List Ho) : List ResultVar → Option (List V)
  | [] => some []
  | .tmp t :: r => match tm[t]?, resultsV P tm h r with
    | some v, some vs => some (v :: vs)
    | _, _ => none
  | .cell a t :: r => match (tm[a]?), knownT P t, resultsV P tm h r with
    | some p, true, some vs => match loadV P h t p with
      | some v => some (v :: vs)
      | none => none
    | _, _, _ => none
def resultV (P : Program) (st : Sv) (rs : List ResultVar) : Option V := match resultsV P st.tm st.h rs with
  | some [v] => some v
  | some vs => some (.tup vs)
  | none => none

theorem resultsV_run {φ : List Pl} {w : World} {tmps : Array Value} {tm : List V} {h : List Ho} (hi : Inv F φ w h) (ht : RelT F φ w tmps tm) (f : ResultVar → Sem Value)
    (hf1 : ∀ t, f (.tmp t) = pure (tmps.getD t undef)) (hf2 : ∀ a t, f (.cell a t) = do loadVar t (← asAddr (tmps.getD a undef))) : ∀ (rs : List ResultVar) (vs : List V), resultsV P tm h rs = some vs →
    ∃ us : List Value, (rs.mapM f).run P w = .ok us w ∧ DenL F φ w us vs
  | [], vs, h => by simp only [resultsV] at h; cases h; exact ⟨[], by simp, .nil⟩
  | .tmp t :: r, vs, h => by
    unfold resultsV at h
    split at h
    · rename_i v vs' h1 h2
      cases h
      obtain ⟨us, hu, hd⟩ := resultsV_run hi ht f hf1 hf2 r _ h2
      have hlt : t < tmps.size := by rw [ht.1]; exact get_lt h1
      have e : tmps.getD t undef = tmps[t] := by simp [Array.getD, hlt]
      refine ⟨tmps[t] :: us, ?_, .cons (ht.2 t _ v (Array.getElem?_eq_getElem hlt) h1) hd⟩
      simp only [List.mapM_cons, hf1, Sem.run_bind, Sem.run_pure, Result.andThen_ok, hu, e]
    · cases h
  | .cell a t :: r, vs, h => by
    unfold resultsV at h
    split at h
    · rename_i p vs' h1 hk h2
      split at h
      · rename_i v hl
        cases h
        obtain ⟨us, hu, hd⟩ := resultsV_run hi ht f hf1 hf2 r _ h2
        have hlt : a < tmps.size := by rw [ht.1]; exact get_lt h1
        have e : tmps.getD a undef = tmps[a] := by simp [Array.getD, hlt]
        have hden := ht.2 a _ p (Array.getElem?_eq_getElem hlt) h1
        obtain ⟨d, hdt⟩ := Option.isSome_iff_exists.1 hk
        obtain ⟨u, hr, hdu⟩ := loadV_run (P := P) hi hl hdt hden
        have hptr : ∃ ad, tmps[a] = .pointer (some ad) := by
          cases p <;> simp only [loadV, reduceCtorEq] at hl
          · obtain ⟨b, hb, _⟩ := hden.ptrInv; exact ⟨_, hb⟩
          · obtain ⟨b, at_, f, hb, _⟩ := hden.epInv; exact ⟨_, hb⟩
        obtain ⟨ad, had⟩ := hptr
        rw [had] at hr e
        simp only [Instr.loadAt, Instr.sureAddr, Sem.run_bind, Sem.run_pure, Result.andThen_ok] at hr
        refine ⟨u :: us, ?_, .cons hdu hd⟩
        have hasa : (asAddr (.pointer (some ad))).run P w = .ok ad w := rfl
        simp only [List.mapM_cons, hf2, Sem.run_bind, Sem.run_pure, Result.andThen_ok, hu, e, hasa, hr]
      · cases h
    · cases h

/-- A contract, out of a walk through the body. -/
theorem Sp.of_body {f : FuncId} {fn : Func} {c : Code} {vs : List V} {h : List Ho} {R : V → List Ho → Prop} (hf : P.funcs[f]? = some fn) (hb : fn.body = some c)
    (hw : ∀ Q : Exit → Sv → Prop, (∀ st v, resultV P st fn.results.toList = some v → R v st.h → Q .normal st ∧ Q .ret st) → WPV P K h.length c Q ⟨vs ++ List.replicate (fn.ntmps - vs.length) .undef, h⟩) : Sp P K f vs h R := by
  intro F φ w args hK hi hd
  refine calls_of_wp hf hb ?_
  have hl := hd.length
  rw [Array.length_toList] at hl
  have hrel : RelA F φ w ⟨vs ++ List.replicate (fn.ntmps - vs.length) .undef, h⟩ { tmps := args ++ Array.replicate (fn.ntmps - args.size) undef, defers := [] } w := by
    refine ⟨φ, .refl φ w, hi, ⟨by simp [hl], fun t r v hr hv => ?_⟩, rfl⟩
    by_cases ht : t < args.size
    · rw [Array.getElem?_append_left ht] at hr
      rw [List.getElem?_append_left (by omega)] at hv
      exact hd.get t r v (by simpa using hr) hv
    · rw [Array.getElem?_append_right (by omega), Array.getElem?_replicate] at hr
      rw [List.getElem?_append_right (by omega), List.getElem?_replicate] at hv
      split at hr
      · split at hv
        · cases hr; cases hv; exact den_undef
        · cases hv
      · cases hr
  refine wp_mono (hw (fun e st => (e = .normal ∨ e = .ret) ∧ ∃ v, resultV P st fn.results.toList = some v ∧ R v st.h) (fun st v h1 h2 => ⟨⟨.inl rfl, v, h1, h2⟩, .inr rfl, v, h1, h2⟩) F φ w h hK rfl hi _ w hrel) ?_
  rintro e a' w' ⟨hok, st', ⟨φ', he, hi', ht, hdf⟩, hee, v, hv, hR⟩
  have fin : a'.defers = [] ∧ ∃ u, (results fn a'.tmps).run P w' = .ok u w' ∧ ∃ u' φ' v h', Ending.returned u = .returned u' ∧ Ext φ w φ' w' ∧ Inv F φ' w' h' ∧ Den F φ' w' u' v ∧ R v h' := by
    refine ⟨hdf, ?_⟩
    unfold resultV at hv
    have key : ∀ us0, resultsV P st'.tm st'.h fn.results.toList = some us0 → ∃ us : List Value, (results fn a'.tmps).run P w' = .ok (if h : us.length = 1 then us[0] else .tuple us.toArray) w' ∧ DenL F φ' w' us us0 := fun us0 h0 => by
      obtain ⟨us, hu, hd⟩ := resultsV_run (P := P) hi' ht (results.match_1 (fun _ => Sem Value) · (fun t => pure (a'.tmps.getD t undef)) (fun a t => do loadVar t (← asAddr (a'.tmps.getD a undef)))) (fun _ => rfl) (fun _ _ => rfl) _ _ h0
      refine ⟨us, ?_, hd⟩
      unfold results
      rw [Array.mapM_eq_mapM_toList]
      simp only [Sem.run_bind, Sem.run_map]
      rw [hu]
      simp
    split at hv
    · rename_i v0 h0
      cases hv
      obtain ⟨us, hu, hd⟩ := key _ h0
      cases hd with
      | cons hd hds =>
        cases hds
        exact ⟨_, hu, _, φ', v, st'.h, rfl, he, hi', by simpa using hd, hR⟩
    · rename_i vs0 hne h0
      cases hv
      obtain ⟨us, hu, hd⟩ := key _ h0
      have hl1 : us.length ≠ 1 := fun e => by
        have := hd.length
        rw [e] at this
        cases vs0 with
        | nil => simp at this
        | cons x xs =>
          cases xs with
          | nil => exact hne x rfl
          | cons y ys => simp at this
      refine ⟨_, hu, _, φ', .tup vs0, st'.h, rfl, he, hi', ?_, hR⟩
      rw [dif_neg hl1]
      exact .tup (by simpa using hd.length) fun i r v hr hv => hd.get i r v (by simpa using hr) hv
    · cases hv
  rcases hee with rfl | rfl <;> exact fin
end Go.Proofs.YtonllhjmoenckaaDoor
