/- What a function does, told by values: its contract; a contract serves where there are more objects. No program stands here. -/
import Derived.Test.YtonllhjmoenckaaDoorVsI
namespace Go.Proofs.YtonllhjmoenckaaDoor
open Go Go.RowKit
set_option linter.unusedVariables false
set_option linter.unusedSimpArgs false
variable {F : Fr} {P : Program} {K : Nat → Obj → Prop}

/-- Called with vs, where the objects are h, function f returns what R says, and R says what the objects are then; nothing else has changed. -/
def Sp (P : Program) (K : Nat → Obj → Prop) (f : FuncId) (vs : List V) (h : List Ho) (R : V → List Ho → Prop) : Prop :=
  ∀ (F : Fr) (φ : List Pl) (w : World) (args : Array Value), F.known = K → Inv F φ w h → DenL F φ w args.toList vs →
    Calls P f args w fun e w' => ∃ u φ' v h', e = .returned u ∧ Ext φ w φ' w' ∧ Inv F φ' w' h' ∧ Den F φ' w' u v ∧ R v h'

theorem Sp.mono {f : FuncId} {vs : List V} {h : List Ho} {R R' : V → List Ho → Prop} (hs : Sp P K f vs h R) (hr : ∀ v h', R v h' → R' v h') : Sp P K f vs h R' :=
  fun F φ w args hK hi hd => (hs F φ w args hK hi hd).mono fun e w' ⟨u, φ', v, h', a, b, c, d, r⟩ => ⟨u, φ', v, h', a, b, c, d, hr v h' r⟩

/-! ### Other numbers for the objects -/
mutual
def renV (g : Nat → Nat) : V → V
  | .d x => .d x
  | .agg cs => .agg (renL g cs)
  | .tup cs => .tup (renL g cs)
  | .own k es t => .own k es (g t)
  | .full k es => .full k es
  | .ptr o off => .ptr (g o) off
  | .ep c off => .ep c off
  | .hs q k o off n => .hs q k (g o) off n
  | .mp o => .mp (g o)
  | .fn f cs => .fn f (renL g cs)
  | .any => .any
  | .ub => .ub
def renL (g : Nat → Nat) : List V → List V
  | [] => []
  | v :: vs => renV g v :: renL g vs
end
theorem renL_map (g : Nat → Nat) : ∀ l : List V, renL g l = l.map (renV g)
  | [] => by simp [renL]
  | v :: vs => by simp [renL, renL_map g vs]
def renO (g : Nat → Nat) : Ho → Ho
  | .cells cs => .cells (renL g cs)
  | .map m => .map (m.mapV (renV g))
  | .tail => .tail
  | .dead => .dead
  | .yet => .yet

theorem renL_get (g : Nat → Nat) (l : List V) (i : Nat) : (renL g l)[i]? = (l[i]?).map (renV g) := by rw [renL_map, List.getElem?_map]
theorem renL_len (g : Nat → Nat) (l : List V) : (renL g l).length = l.length := by rw [renL_map, List.length_map]

theorem DenD.move {F F' : Fr} {φ φ' : List Pl} {w : World} (hp : ∀ b o, prot F φ w b o → prot F' φ' w b o) {r : Value} {x : D} (hd : DenD F φ w r x) : DenD F' φ' w r x := by
  induction hd with
  | sc hx => exact .sc hx
  | nil => exact .nil
  | sl c hn hcap hk hc _ ih => exact .sl c hn hcap hk (fun i j hi hj => ⟨hp _ _ (hc i j hi hj).1, (hc i j hi hj).2⟩) ih

/-- From a caller's numbers to the callee's. -/
theorem Den.down {F F' : Fr} {φ φ' : List Pl} {w : World} {g : Nat → Nat} (hp : ∀ b o, prot F φ w b o → prot F' φ' w b o) (hg : ∀ i, lv φ (g i) → lv φ' i ∧ φ'[i]? = φ[g i]?) {r : Value} {u : V} (hd : Den F φ w r u) :
    ∀ v, u = renV g v → Den F' φ' w r v := by
  induction hd with
  | d h => intro v e; cases v <;> simp only [renV, reduceCtorEq] at e <;> cases e; exact .d (h.move hp)
  | agg hs h1 _ ih =>
    intro v e; cases v <;> simp only [renV, reduceCtorEq] at e
    cases e
    exact .agg (by rw [hs, renL_len]) h1 fun i r v hr hv => ih i r _ hr (by rw [renL_get, hv]; rfl) v rfl
  | tup hs _ ih =>
    intro v e; cases v <;> simp only [renV, reduceCtorEq] at e
    cases e
    exact .tup (by rw [hs, renL_len]) fun i r v hr hv => ih i r _ hr (by rw [renL_get, hv]; rfl) v rfl
  | own ht h hn hpl hf ho =>
    intro v e; cases v <;> simp only [renV, reduceCtorEq] at e
    cases e
    obtain ⟨h1, h2⟩ := hg _ ht
    exact .own h1 (h.move hp) hn (by rw [h2]; exact hpl) (by rw [h2]; exact hf) (by rw [h2]; exact ho)
  | ownEx ht hh h hn =>
    intro v e; cases v <;> simp only [renV, reduceCtorEq] at e
    cases e
    obtain ⟨h1, h2⟩ := hg _ ht
    exact .ownEx h1 (by rw [h2]; exact hh) (h.move hp) hn
  | full h hn => intro v e; cases v <;> simp only [renV, reduceCtorEq] at e <;> cases e; exact .full (h.move hp) hn
  | ptr ho h =>
    intro v e; cases v <;> simp only [renV, reduceCtorEq] at e
    cases e
    obtain ⟨h1, h2⟩ := hg _ ho
    exact .ptr h1 (by rw [h2]; exact h)
  | ep c ha hc hd => intro v e; cases v <;> simp only [renV, reduceCtorEq] at e <;> cases e; exact .ep c ha (fun j hj => ⟨hp _ _ (hc j hj).1, (hc j hj).2⟩) fun j x hx => (hd j x hx).move hp
  | hs ho h hcap hf =>
    intro v e; cases v <;> simp only [renV, reduceCtorEq] at e
    cases e
    obtain ⟨h1, h2⟩ := hg _ ho
    exact .hs h1 (by rw [h2]; exact h) hcap (by rw [h2]; exact hf)
  | hsE ho ha hcap hsp =>
    intro v e; cases v <;> simp only [renV, reduceCtorEq] at e
    cases e
    obtain ⟨h1, h2⟩ := hg _ ho
    exact .hsE h1 ha hcap hsp
  | hsN ho h =>
    intro v e; cases v <;> simp only [renV, reduceCtorEq] at e
    cases e
    obtain ⟨h1, h2⟩ := hg _ ho
    exact .hsN h1 (by rw [h2]; exact h)
  | any => intro v e; cases v <;> simp only [renV, reduceCtorEq] at e; exact .any
  | ub => intro v e; cases v <;> simp only [renV, reduceCtorEq] at e; exact .ub
  | mp ho h =>
    intro v e; cases v <;> simp only [renV, reduceCtorEq] at e
    cases e
    obtain ⟨h1, h2⟩ := hg _ ho
    exact .mp h1 (by rw [h2]; exact h)
  | fn hs _ ih =>
    intro v e; cases v <;> simp only [renV, reduceCtorEq] at e
    cases e
    exact .fn (by rw [hs, renL_len]) fun i r v hr hv => ih i r _ hr (by rw [renL_get, hv]; rfl) v rfl

/-- From a callee's numbers to the caller's. -/
theorem Den.up {F F' : Fr} {φ φ' : List Pl} {w : World} {g : Nat → Nat} (hp : ∀ b o, prot F φ w b o → prot F' φ' w b o) (hg : ∀ i, lv φ i → lv φ' (g i) ∧ φ'[g i]? = φ[i]?) {r : Value} {v : V} (hd : Den F φ w r v) :
    Den F' φ' w r (renV g v) := by
  induction hd with
  | d h => exact .d (h.move hp)
  | agg hs h1 _ ih =>
    refine .agg (by rw [hs, renL_len]) h1 fun i r v hr hv => ?_
    rw [renL_get] at hv
    obtain ⟨x, hx, rfl⟩ := Option.map_eq_some_iff.1 hv
    exact ih i r x hr hx
  | tup hs _ ih =>
    refine .tup (by rw [hs, renL_len]) fun i r v hr hv => ?_
    rw [renL_get] at hv
    obtain ⟨x, hx, rfl⟩ := Option.map_eq_some_iff.1 hv
    exact ih i r x hr hx
  | own ht h hn hpl hf ho =>
    obtain ⟨h1, h2⟩ := hg _ ht
    exact .own h1 (h.move hp) hn (by rw [h2]; exact hpl) (by rw [h2]; exact hf) (by rw [h2]; exact ho)
  | ownEx ht hh h hn =>
    obtain ⟨h1, h2⟩ := hg _ ht
    exact .ownEx h1 (by rw [h2]; exact hh) (h.move hp) hn
  | full h hn => exact .full (h.move hp) hn
  | ptr ho h =>
    obtain ⟨h1, h2⟩ := hg _ ho
    exact .ptr h1 (by rw [h2]; exact h)
  | ep c ha hc hd => exact .ep c ha (fun j hj => ⟨hp _ _ (hc j hj).1, (hc j hj).2⟩) fun j x hx => (hd j x hx).move hp
  | hs ho h hcap hf =>
    obtain ⟨h1, h2⟩ := hg _ ho
    exact .hs h1 (by rw [h2]; exact h) hcap (by rw [h2]; exact hf)
  | hsE ho ha hcap hsp =>
    obtain ⟨h1, h2⟩ := hg _ ho
    exact .hsE h1 ha hcap hsp
  | hsN ho h =>
    obtain ⟨h1, h2⟩ := hg _ ho
    exact .hsN h1 (by rw [h2]; exact h)
  | any => exact .any
  | ub => exact .ub
  | mp ho h =>
    obtain ⟨h1, h2⟩ := hg _ ho
    exact .mp h1 (by rw [h2]; exact h)
  | fn hs _ ih =>
    refine .fn (by rw [hs, renL_len]) fun i r v hr hv => ?_
    rw [renL_get] at hv
    obtain ⟨x, hx, rfl⟩ := Option.map_eq_some_iff.1 hv
    exact ih i r x hr hx

mutual
theorem renV_id : ∀ v : V, renV id v = v
  | .d x => rfl
  | .agg cs => by rw [renV, renL_id cs]
  | .tup cs => by rw [renV, renL_id cs]
  | .own k es t => rfl
  | .full k es => rfl
  | .ptr o off => rfl
  | .ep c off => rfl
  | .hs q k o off n => rfl
  | .any => rfl
  | .ub => rfl
  | .mp o => rfl
  | .fn f cs => by rw [renV, renL_id cs]
theorem renL_id : ∀ l : List V, renL id l = l
  | [] => rfl
  | v :: vs => by rw [renL, renV_id v, renL_id vs]
end

/-- A number at the end that was set aside and not used. -/
def trimY : List Ho → List Ho
  | [] => []
  | [.yet] => []
  | o :: l => o :: trimY l
theorem trimY_cases : ∀ h : List Ho, trimY h = h ∨ h = trimY h ++ [.yet]
  | [] => .inl rfl
  | [o] => by cases o <;> first | exact .inr rfl | exact .inl rfl
  | o :: p :: l => by
    have e : trimY (o :: p :: l) = o :: trimY (p :: l) := by cases o <;> rfl
    rw [e]
    rcases trimY_cases (p :: l) with h | h
    · exact .inl (by rw [h])
    · exact .inr (by rw [List.cons_append, ← h])

theorem Inv.same {F : Fr} {φ φ' : List Pl} {w : World} {h h' : List Ho} (hi : Inv F φ w h) (hl : φ'.length = h'.length) (hp : ∀ b o, prot F φ w b o → prot F φ' w b o) (hlv : ∀ i, lv φ i → lv φ' i ∧ φ'[i]? = φ[i]?)
    (hs : ∀ (i : Nat) (p : Pl), φ'[i]? = some p → φ[i]? = some p) (hh : ∀ (i : Nat) (o : Ho), h'[i]? = some o → h[i]? = some o) : Inv F φ' w h' := by
  have mv : ∀ {r : Value} {v : V}, Den F φ w r v → Den F φ' w r v := fun hd => hd.down (g := id) hp hlv _ (renV_id _).symm
  refine ⟨hl, fun i p o h1 h2 => ?_, fun i j p q b h1 h2 => hi.apart i j p q b (hs i p h1) (hs j q h2), hi.frB, fun i p b o h1 => hi.frO i p b o (hs i p h1), fun b x hx => ⟨(hi.frK b x hx).1, fun i p h1 => (hi.frK b x hx).2 i p (hs i p h1)⟩⟩
  have hok := hi.ok i p o (hs i p h1) (hh i o h2)
  cases p <;> cases o <;> first | exact hok.elim | skip
  · obtain ⟨arr, a, z0, b, c⟩ := hok
    exact ⟨arr, a, z0, b, fun j v hv => let ⟨u, x, y, z⟩ := c j v hv; ⟨u, x, y, mv z⟩⟩
  · obtain ⟨ents, clock, a, b, c⟩ := hok
    exact ⟨ents, clock, a, b, fun j m e hm he => ⟨(c j m e hm he).1, mv (c j m e hm he).2⟩⟩
  all_goals exact hok

/-- What was set aside and not used is dropped. -/
theorem trim_all {F : Fr} {φ0 φ : List Pl} {w0 w : World} {h : List Ho} (he : Ext φ0 w0 φ w) (hl0 : φ0.length + 1 ≤ φ.length) (hi : Inv F φ w h) : ∃ φ', Ext φ0 w0 φ' w ∧ Inv F φ' w (trimY h) ∧ ∀ {r : Value} {v : V}, Den F φ w r v → Den F φ' w r v := by
  rcases trimY_cases h with e | e
  · rw [e]; exact ⟨φ, he, hi, fun hd => hd⟩
  · generalize trimY h = h1 at e ⊢
    subst e
    have hlen := hi.len
    have hn : h1.length + 1 = (h1 ++ [Ho.yet]).length := by simp
    have hlast : (h1 ++ [Ho.yet])[h1.length]? = some .yet := by simp
    have hpl : φ[h1.length]? = some .yet := by
      obtain ⟨p, hp⟩ := ofLtL (xs := φ) (i := h1.length) (by omega)
      have := hi.ok _ p _ hp hlast
      cases p <;> first | exact this.elim | exact hp
    have hs : ∀ (i : Nat) (p : Pl), (φ.take h1.length)[i]? = some p → φ[i]? = some p := fun i p hp => by
      rw [List.getElem?_take] at hp
      split at hp
      · exact hp
      · cases hp
    have hin : ∀ i, i < h1.length → (φ.take h1.length)[i]? = φ[i]? := fun i hlt => by rw [List.getElem?_take, if_pos hlt]
    have hlv : ∀ i, lv φ i → lv (φ.take h1.length) i ∧ (φ.take h1.length)[i]? = φ[i]? := fun i hx => by
      obtain ⟨p, hp, hne⟩ := hx
      have hlt := get_lt hp
      have : i ≠ h1.length := fun e => by subst e; rw [hpl] at hp; cases hp; exact hne rfl
      have e2 := hin i (by omega)
      exact ⟨⟨p, by rw [e2]; exact hp, hne⟩, e2⟩
    have hp : ∀ b o, prot F φ w b o → prot F (φ.take h1.length) w b o := fun b o ⟨a1, a2, a3, a4⟩ => ⟨a1, fun i hx => a2 i (hs i _ hx), fun i e hx => a3 i e (hs i _ hx), a4⟩
    refine ⟨φ.take h1.length, ?_, hi.same (by simp; omega) hp hlv hs (fun i o ho => ?_), fun hd => hd.down (g := id) hp hlv _ (renV_id _).symm⟩
    · refine ⟨he.size, by simp; omega, fun i hx => ?_, he.keep, he.tail, fun i b hx => he.objs i b (hs i _ hx), fun i b e' hx => he.tails i b e' (hs i _ hx), he.io⟩
      rw [(hlv i (lv_ext he hx)).2]
      exact he.old i hx
    · have hlt := get_lt ho
      rw [List.getElem?_append_left hlt]; exact ho

/-- Which number a callee's object has for its caller. -/
def gOf (ρ : List Nat) (base : Nat) (i : Nat) : Nat := match ρ[i]? with
  | some j => j
  | none => base + (i - ρ.length)

/-- The caller's objects behind the call: those that were handed on as the callee left them, and its new ones behind them. -/
def setAll {α : Type} : List α → List Nat → List α → List α
  | h, j :: ρ, o :: os => setAll (h.set j o) ρ os
  | h, _, _ => h
def mergeH {α : Type} (h : List α) (ρ : List Nat) (hl : List α) : List α := setAll h ρ (hl.take ρ.length) ++ hl.drop ρ.length

theorem setAll_len {α : Type} : ∀ (ρ : List Nat) (os h : List α), (setAll h ρ os).length = h.length
  | [], os, h => by cases os <;> rfl
  | j :: ρ, [], h => rfl
  | j :: ρ, o :: os, h => by simp [setAll, setAll_len ρ os]
theorem setAll_not {α : Type} : ∀ (ρ : List Nat) (os h : List α) (j : Nat), j ∉ ρ → (setAll h ρ os)[j]? = h[j]?
  | [], os, h, j, _ => by cases os <;> rfl
  | i :: ρ, [], h, j, _ => rfl
  | i :: ρ, o :: os, h, j, hj => by
    simp only [List.mem_cons, not_or] at hj
    rw [setAll, setAll_not ρ os _ j hj.2, List.getElem?_set_ne (fun e => hj.1 e.symm)]
theorem setAll_at {α : Type} : ∀ (ρ : List Nat) (os h : List α), ρ.Nodup → ρ.length = os.length → (∀ j ∈ ρ, j < h.length) → ∀ (i j : Nat), ρ[i]? = some j → (setAll h ρ os)[j]? = os[i]?
  | [], os, h, _, _, _, i, j, hi => by simp at hi
  | k :: ρ, [], h, _, hl, _, _, _, _ => by simp at hl
  | k :: ρ, o :: os, h, hn, hl, hb, i, j, hi => by
    simp only [List.nodup_cons] at hn
    cases i with
    | zero =>
      simp at hi; subst hi
      rw [setAll, setAll_not ρ os _ k hn.1, List.getElem?_set_self (hb k (by simp))]; rfl
    | succ i =>
      simp at hi
      have := setAll_at ρ os (h.set k o) hn.2 (by simpa using hl) (fun j hj => by simpa using hb j (by simp [hj])) i j hi
      simpa [setAll] using this

theorem Sp.frame {f : FuncId} {vs vs' : List V} {h hl : List Ho} {R N : V → List Ho → Prop} (hs : Sp P K f vs' hl R) (ρ : List Nat) (hn : ρ.Nodup) (hlen : ρ.length = hl.length)
    (hpick : ∀ (i j : Nat) (o : Ho), ρ[i]? = some j → hl[i]? = some o → h[j]? = some (renO (gOf ρ h.length) o))
    (hb : ∀ j ∈ ρ, j < h.length)
    (hv : ∀ (F : Fr) (φ : List Pl) (w : World) (rs : List Value), DenL F φ w rs vs → DenL F φ w rs (vs'.map (renV (gOf ρ h.length))))
    (hk : ∀ (v : V) (hl' : List Ho), R v hl' → N (renV (gOf ρ h.length) v) (mergeH h ρ (hl'.map (renO (gOf ρ h.length))))) : Sp P K f vs h N := by
  intro F φ w args hK hi hd
  have hφ : ∀ j ∈ ρ, j < φ.length := fun j hj => by rw [hi.len]; exact hb j hj
  -- the callee's side
  let φl : List Pl := ρ.map fun j => (φ[j]?).getD .dead
  have hφl : ∀ i : Nat, φl[i]? = (ρ[i]?).bind fun j => φ[j]? := fun i => by
    simp only [φl, List.getElem?_map]
    cases hr : ρ[i]? with
    | none => rfl
    | some j =>
      obtain ⟨p, hp⟩ := ofLtL (hφ j (List.mem_of_getElem? hr))
      simp [hp]
  have hlφ : φl.length = ρ.length := by simp [φl]
  let F' : Fr := ⟨fun b o => F.shut b o ∨ ∃ (j : Nat) (p : Pl), φ[j]? = some p ∧ j ∉ ρ ∧ ((∃ z, p = .obj b z) ∨ ∃ e, p = .tail b e ∧ e ≤ o), F.known⟩
  have old : ∀ (i : Nat) (p : Pl), φl[i]? = some p → ∃ j, ρ[i]? = some j ∧ φ[j]? = some p := fun i p hp => by
    rw [hφl] at hp
    cases hr : ρ[i]? with
    | none => rw [hr] at hp; cases hp
    | some j => rw [hr] at hp; exact ⟨j, rfl, hp⟩
  have pdown : ∀ b o, prot F φ w b o → prot F' φl w b o := fun b o ⟨h1, h2, h3, h4⟩ =>
    ⟨h1, fun i hi' => by obtain ⟨j, _, hj⟩ := old i _ hi'; exact h2 j hj, fun i e hi' => by obtain ⟨j, _, hj⟩ := old i _ hi'; exact h3 j e hj, fun hF => by
      rcases hF with hF | ⟨j, p, hj, _, ⟨z, rfl⟩ | ⟨e, rfl, hle⟩⟩
      · exact h4 hF
      · exact h2 j hj
      · have := h3 j e hj; omega⟩
  have gdown : ∀ i, lv φ (gOf ρ h.length i) → lv φl i ∧ φl[i]? = φ[gOf ρ h.length i]? := fun i hlv => by
    unfold gOf at hlv ⊢
    cases hr : ρ[i]? with
    | none =>
      rw [hr] at hlv
      obtain ⟨p, hp, _⟩ := hlv
      have := get_lt hp
      simp only [hi.len] at this; omega
    | some j =>
      rw [hr] at hlv
      obtain ⟨p, hp, hne⟩ := hlv
      have e : φl[i]? = φ[j]? := by rw [hφl, hr]; rfl
      exact ⟨⟨p, by rw [e]; exact hp, hne⟩, e⟩
  have hinvl : Inv F' φl w hl := by
    refine ⟨by rw [hlφ, hlen], fun i p o hp ho => ?_, fun i j p q b hp hq hb1 hb2 => ?_, fun b o hF => ?_, fun i p b o hp hb1 hF => ?_, fun b x hx => ?_⟩
    · obtain ⟨j, hr, hj⟩ := old i p hp
      have hok := hi.ok j p _ hj (hpick i j o hr ho)
      cases p <;> cases o <;> simp only [ObOk, renO] at hok ⊢
      · obtain ⟨arr, hr, hz, hl, hd⟩ := hok
        refine ⟨arr, hr, hz, by rw [renL_len] at hl; exact hl, fun k v hv => ?_⟩
        obtain ⟨u, h1, h2, h3⟩ := hd k _ (by rw [renL_get, hv]; rfl)
        exact ⟨u, h1, h2, h3.down pdown gdown v rfl⟩
      · obtain ⟨ents, clock, hr, hl, hd⟩ := hok
        refine ⟨ents, clock, hr, by simpa [GM.mapV] using hl, fun k m e hm he => ?_⟩
        obtain ⟨h1, h2⟩ := hd k m ⟨e.born, e.key, renV _ e.val⟩ hm (by simp only [GM.mapV, List.getElem?_map, he]; rfl)
        exact ⟨h1, h2.down pdown gdown _ rfl⟩
      · exact hok
      · rename_i cs; cases cs with
        | nil => rfl
        | cons a l => simp [renL] at hok
    · obtain ⟨i', hr, hj⟩ := old i p hp
      obtain ⟨j', hr', hj'⟩ := old j q hq
      have := hi.apart i' j' p q b hj hj' hb1 hb2
      subst this
      exact (List.getElem?_inj (get_lt hr) hn).1 (by rw [hr, hr'])
    · rcases hF with hF | ⟨j, p, hj, _, ⟨z, rfl⟩ | ⟨e, rfl, hle⟩⟩
      · exact hi.frB b o hF
      · exact hi.lt hj rfl
      · exact hi.lt hj rfl
    · obtain ⟨i', hr, hi'⟩ := old i p hp
      rcases hF with hF | ⟨j, q, hj, hjn, hq⟩
      · exact hi.frO i' p b o hi' hb1 hF
      · have : i' = j := hi.apart i' j p q b hi' hj hb1 (by rcases hq with ⟨z, rfl⟩ | ⟨e, rfl, _⟩ <;> rfl)
        subst this
        exact hjn (List.mem_of_getElem? hr)
    · obtain ⟨h1, h2⟩ := hi.frK b x hx
      exact ⟨h1, fun i p hp => by obtain ⟨j, _, hj⟩ := old i p hp; exact h2 j p hj⟩
  have hdl : DenL F' φl w args.toList vs' := by
    have h1 := hv F φ w _ hd
    refine .of_get (by have := h1.length; simpa using this) fun i r v hr hvv => ?_
    exact (h1.get i r _ hr (by rw [List.getElem?_map, hvv]; rfl)).down pdown gdown v rfl
  refine (hs F' φl w args hK hinvl hdl).mono ?_
  rintro e w' ⟨u, φl', v, hl', rfl, he, hil, hdv, hR⟩
  -- back at the caller's
  have hkl : ρ.length ≤ φl'.length := by rw [← hlφ]; exact he.len
  have htk : (φl'.take ρ.length).length = ρ.length := by simp; omega
  let φ' : List Pl := mergeH φ ρ φl'
  have hlen' : φ'.length = φ.length + (φl'.length - ρ.length) := by simp [φ', mergeH, setAll_len]
  have gin : ∀ (i j : Nat), ρ[i]? = some j → φ'[j]? = φl'[i]? := fun i j hr => by
    have hj : j < φ.length := hφ j (List.mem_of_getElem? hr)
    simp only [φ', mergeH]
    rw [List.getElem?_append_left (by rw [setAll_len]; exact hj), setAll_at ρ _ φ hn htk.symm hφ i j hr, List.getElem?_take, if_pos (get_lt hr)]
  have gout : ∀ j, j < φ.length → j ∉ ρ → φ'[j]? = φ[j]? := fun j hj hjn => by
    simp only [φ', mergeH]
    rw [List.getElem?_append_left (by rw [setAll_len]; exact hj), setAll_not ρ _ φ j hjn]
  have gnew : ∀ i, ρ.length ≤ i → φ'[φ.length + (i - ρ.length)]? = φl'[i]? := fun i hi' => by
    simp only [φ', mergeH]
    rw [List.getElem?_append_right (by rw [setAll_len]; omega), setAll_len, List.getElem?_drop]
    congr 1; omega
  -- where an entry of the merged list comes from
  have src : ∀ (x : Nat) (p : Pl), φ'[x]? = some p → (∃ i, φl'[i]? = some p ∧ x = gOf ρ h.length i) ∨ (x < φ.length ∧ x ∉ ρ ∧ φ[x]? = some p) := fun x p hp => by
    by_cases hx : x < φ.length
    · by_cases hm : x ∈ ρ
      · obtain ⟨i, hi'⟩ := List.mem_iff_getElem?.1 hm
        exact .inl ⟨i, by rw [← gin i x hi']; exact hp, by unfold gOf; rw [hi']⟩
      · exact .inr ⟨hx, hm, by rw [← gout x hx hm]; exact hp⟩
    · have hlt := get_lt hp
      rw [hlen'] at hlt
      have e : x = φ.length + ((x - φ.length + ρ.length) - ρ.length) := by omega
      refine .inl ⟨x - φ.length + ρ.length, ?_, ?_⟩
      · rw [← gnew _ (by omega), ← e]; exact hp
      · unfold gOf
        rw [List.getElem?_eq_none (by omega), ← hi.len]; omega
  have gup : ∀ i, lv φl' i → lv φ' (gOf ρ h.length i) ∧ φ'[gOf ρ h.length i]? = φl'[i]? := fun i hlv => by
    obtain ⟨p, hp, hne⟩ := hlv
    have e : φ'[gOf ρ h.length i]? = φl'[i]? := by
      unfold gOf
      cases hr : ρ[i]? with
      | some j => exact gin i j hr
      | none =>
        have hge : ρ.length ≤ i := List.getElem?_eq_none_iff.1 hr
        simp only [← hi.len]
        exact gnew i hge
    exact ⟨⟨p, by rw [e]; exact hp, hne⟩, e⟩
  have notin : ∀ (j : Nat) (p : Pl) (b : Nat), φ[j]? = some p → j ∉ ρ → p.blk = some b → ∀ (i : Nat) (q : Pl), φl[i]? = some q → q.blk ≠ some b := fun j p b hj hjn hpb i q hq hqb => by
    obtain ⟨i', hr, hi'⟩ := old i q hq
    have := hi.apart i' j q p b hi' hj hqb hpb
    subst this
    exact hjn (List.mem_of_getElem? hr)
  have oldl : ∀ (i : Nat) (p : Pl) (b : Nat), φl'[i]? = some p → p.blk = some b → b < w.heap.size → ∃ (j : Nat) (q : Pl), j ∈ ρ ∧ φ[j]? = some q ∧ q.blk = some b := fun i p b hp hpb hlt => by
    have h0 : ∃ (i' : Nat) (q : Pl), φl[i']? = some q ∧ q.blk = some b := by
      cases p with
      | obj b' z => cases hpb; obtain ⟨j, _, hj⟩ := he.objs i b hp hlt; exact ⟨j, _, hj, rfl⟩
      | tail b' e' =>
        cases hpb
        rcases he.tails i b e' hp hlt with ⟨j, e2, hj, _⟩ | ⟨j, _, hj⟩
        · exact ⟨j, _, hj, rfl⟩
        · exact ⟨j, _, hj, rfl⟩
      | free => cases hpb
      | dead => cases hpb
      | yet => cases hpb
    obtain ⟨i', q, hq, hqb⟩ := h0
    obtain ⟨j, hr, hj⟩ := old i' q hq
    exact ⟨j, q, List.mem_of_getElem? hr, hj, hqb⟩
  have hext : Ext φ w φ' w' := by
    refine ⟨he.size, by rw [hlen']; omega, fun x hx => ?_, fun b hlt hno => ?_, fun x b e2 hx c T fr hc => ?_, fun x b hp hlt => ?_, fun x b e' hp hlt => ?_, he.io⟩
    · obtain ⟨p, hp, hne⟩ := hx
      have hx := get_lt hp
      by_cases hm : x ∈ ρ
      · obtain ⟨i, hi'⟩ := List.mem_iff_getElem?.1 hm
        rw [gin i x hi']
        have e : φl[i]? = φ[x]? := by rw [hφl, hi']; rfl
        have := he.old i ⟨p, by rw [e]; exact hp, hne⟩
        rw [e] at this
        exact this
      · exact .inl (gout x hx hm)
    · exact he.keep b hlt fun i p hp => by obtain ⟨j, _, hj⟩ := old i p hp; exact hno j p hj
    · by_cases hm : x ∈ ρ
      · obtain ⟨i, hi'⟩ := List.mem_iff_getElem?.1 hm
        exact he.tail i b e2 (by rw [hφl, hi']; exact hx) c T fr hc
      · refine ⟨c, ?_, rfl, fun _ _ => rfl⟩
        rw [he.keep b (heap_lt hc) (notin x _ b hx hm rfl)]; exact hc
    · rcases src x _ hp with ⟨i, hi', _⟩ | ⟨_, _, hx⟩
      · obtain ⟨j, _, hj⟩ := he.objs i b hi' hlt
        obtain ⟨j', _, hj'⟩ := old j _ hj
        exact ⟨j', _, hj'⟩
      · exact ⟨x, _, hx⟩
    · rcases src x _ hp with ⟨i, hi', _⟩ | ⟨_, _, hx⟩
      · rcases he.tails i b e' hi' hlt with ⟨j, e2, hj, hle⟩ | ⟨j, _, hj⟩
        · obtain ⟨j', _, hj'⟩ := old j _ hj
          exact .inl ⟨j', e2, hj', hle⟩
        · obtain ⟨j', _, hj'⟩ := old j _ hj
          exact .inr ⟨j', _, hj'⟩
      · exact .inl ⟨x, e', hx, Nat.le_refl _⟩
  have pup : ∀ b o, prot F' φl' w' b o → prot F φ' w' b o := fun b o ⟨h1, h2, h3, h4⟩ => by
    refine ⟨h1, fun x hx => ?_, fun x e2 hx => ?_, fun hF => h4 (.inl hF)⟩
    · rcases src x _ hx with ⟨i, hi', _⟩ | ⟨_, hjn, hx'⟩
      · exact h2 i hi'
      · exact h4 (.inr ⟨x, _, hx', hjn, .inl ⟨_, rfl⟩⟩)
    · rcases src x _ hx with ⟨i, hi', _⟩ | ⟨_, hjn, hx'⟩
      · exact h3 i e2 hi'
      · by_cases hle : e2 ≤ o
        · exact absurd (.inr ⟨x, _, hx', hjn, .inr ⟨e2, rfl, hle⟩⟩) h4
        · omega
  have hmap : (hl'.map (renO (gOf ρ h.length))).length = hl'.length := by simp
  have hkl' : ρ.length ≤ hl'.length := by rw [← hil.len]; exact hkl
  have hobj : ∀ (x : Nat) (o : Ho), (mergeH h ρ (hl'.map (renO (gOf ρ h.length))))[x]? = some o → (∃ (i : Nat) (o' : Ho), hl'[i]? = some o' ∧ x = gOf ρ h.length i ∧ o = renO (gOf ρ h.length) o') ∨ (x < φ.length ∧ x ∉ ρ ∧ h[x]? = some o) := fun x o ho => by
    have htk2 : ((hl'.map (renO (gOf ρ h.length))).take ρ.length).length = ρ.length := by simp; omega
    unfold mergeH at ho
    by_cases hx : x < h.length
    · rw [List.getElem?_append_left (by rw [setAll_len]; exact hx)] at ho
      by_cases hm : x ∈ ρ
      · obtain ⟨i, hi'⟩ := List.mem_iff_getElem?.1 hm
        rw [setAll_at ρ _ h hn htk2.symm hb i x hi', List.getElem?_take, if_pos (get_lt hi'), List.getElem?_map] at ho
        obtain ⟨o', ho', rfl⟩ := Option.map_eq_some_iff.1 ho
        exact .inl ⟨i, o', ho', by unfold gOf; rw [hi'], rfl⟩
      · rw [setAll_not ρ _ h x hm] at ho
        exact .inr ⟨by rw [hi.len]; exact hx, hm, ho⟩
    · rw [List.getElem?_append_right (by rw [setAll_len]; omega), setAll_len, List.getElem?_drop, List.getElem?_map] at ho
      obtain ⟨o', ho', rfl⟩ := Option.map_eq_some_iff.1 ho
      refine .inl ⟨_, o', ho', ?_, rfl⟩
      unfold gOf
      rw [List.getElem?_eq_none (by omega)]
      dsimp only
      omega
  have gne : ∀ i x, x < φ.length → x ∉ ρ → x ≠ gOf ρ h.length i := fun i x hx hm e => by
    unfold gOf at e
    cases hr : ρ[i]? with
    | some j => rw [hr] at e; exact hm (e ▸ List.mem_of_getElem? hr)
    | none => rw [hr] at e; simp only [← hi.len] at e; omega
  have ginj : ∀ i j, gOf ρ h.length i = gOf ρ h.length j → i = j := fun i j e => by
    unfold gOf at e
    cases hr : ρ[i]? with
    | some x =>
      rw [hr] at e
      cases hr' : ρ[j]? with
      | some y =>
        rw [hr'] at e
        simp only at e
        subst e
        exact (List.getElem?_inj (get_lt hr) hn).1 (by rw [hr, hr'])
      | none =>
        rw [hr'] at e
        have := hb x (List.mem_of_getElem? hr)
        simp only at e; omega
    | none =>
      rw [hr] at e
      have h1 := List.getElem?_eq_none_iff.1 hr
      cases hr' : ρ[j]? with
      | some y =>
        rw [hr'] at e
        have := hb y (List.mem_of_getElem? hr')
        simp only at e; omega
      | none =>
        rw [hr'] at e
        have h2 := List.getElem?_eq_none_iff.1 hr'
        simp only at e; omega
  have hinv : Inv F φ' w' (mergeH h ρ (hl'.map (renO (gOf ρ h.length)))) := by
    refine ⟨?_, fun x p o hp ho => ?_, fun x y p q b hp hq hb1 hb2 => ?_, fun b o hF => Nat.lt_of_lt_of_le (hi.frB b o hF) he.size, fun x p b o hp hb1 hF => ?_, fun b y hy => ?_⟩
    · rw [hlen', hil.len, hi.len]; simp [mergeH, setAll_len]
    · rcases src x p hp with ⟨i, hi', rfl⟩ | ⟨hx, hm, hx'⟩
      · rcases hobj _ o ho with ⟨i2, o', ho', e1, rfl⟩ | ⟨h1, h2, _⟩
        · have := ginj _ _ e1
          subst this
          have hok := hil.ok i p o' hi' ho'
          cases p <;> cases o' <;> simp only [ObOk, renO] at hok ⊢
          · obtain ⟨arr, hr, hz, hl, hd⟩ := hok
            refine ⟨arr, hr, hz, by rw [renL_len]; exact hl, fun k v hv => ?_⟩
            rw [renL_get] at hv
            obtain ⟨y, hy, rfl⟩ := Option.map_eq_some_iff.1 hv
            obtain ⟨u, h1, h2, h3⟩ := hd k y hy
            exact ⟨u, h1, h2, h3.up pup gup⟩
          · obtain ⟨ents, clock, hr, hl, hd⟩ := hok
            refine ⟨ents, clock, hr, by simpa [GM.mapV] using hl, fun k m e hm he => ?_⟩
            simp only [GM.mapV, List.getElem?_map] at he
            obtain ⟨y, hy, rfl⟩ := Option.map_eq_some_iff.1 he
            obtain ⟨h1, h2⟩ := hd k m y hm hy
            exact ⟨h1, h2.up pup gup⟩
          · exact hok
          · subst hok; rfl
        · exact absurd rfl (gne i _ h1 h2)
      · rcases hobj x o ho with ⟨i2, o', ho', e1, rfl⟩ | ⟨h1, h2, ho'⟩
        · exact absurd e1 (gne i2 x hx hm)
        · exact (hi.ok x p o hx' ho').ext hext fun b hpb => he.keep b (hi.lt hx' hpb) (notin x p b hx' hm hpb)
    · rcases src x p hp with ⟨i, hi', rfl⟩ | ⟨hx, hm, hx'⟩ <;> rcases src y q hq with ⟨j, hj', rfl⟩ | ⟨hy, hm2, hy'⟩
      · rw [hil.apart i j p q b hi' hj' hb1 hb2]
      · exfalso
        have hlt := hi.lt hy' hb2
        obtain ⟨j, q', hjm, hj, hqb⟩ := oldl i p b hi' hb1 hlt
        have := hi.apart j y q' q b hj hy' hqb hb2
        subst this; exact hm2 hjm
      · exfalso
        have hlt := hi.lt hx' hb1
        obtain ⟨j', q', hjm, hj, hqb⟩ := oldl j q b hj' hb2 hlt
        have := hi.apart j' x q' p b hj hx' hqb hb1
        subst this; exact hm hjm
      · exact hi.apart x y p q b hx' hy' hb1 hb2
    · rcases src x p hp with ⟨i, hi', rfl⟩ | ⟨hx, hm, hx'⟩
      · exact hil.frO i p b o hi' hb1 (.inl hF)
      · exact hi.frO x p b o hx' hb1 hF
    · obtain ⟨h1, h2⟩ := hil.frK b y hy
      refine ⟨h1, fun x p hp => ?_⟩
      rcases src x p hp with ⟨i, hi', rfl⟩ | ⟨hx, hm, hx'⟩
      · exact h2 i p hi'
      · exact (hi.frK b y hy).2 x p hx'
  exact ⟨u, φ', _, _, rfl, hext, hinv, hdv.up pup gup, hk v hl' hR⟩
end Go.Proofs.YtonllhjmoenckaaDoor
