/- Parts of the proofs, joined: VsJ. -/
import Derived.Test.YtgfnpcmehnjopaaGreatDoorT5
import Derived.Scope
import Derived.LoopN
import Derived.IntWalk
namespace Go.Proofs.YtgfnpcmehnjopaaGreatDoor
section
open Go Go.RowKit
set_option linter.unusedVariables false
set_option linter.unusedSimpArgs false
variable {F : Fr} {P : Program} {K : Nat → Obj → Prop}
def Sp (P : Program) (K : Nat → Obj → Prop) (f : FuncId) (vs : List V) (h : List Ho) (R : V → List Ho → Prop) : Prop :=
  ∀ (F : Fr) (φ : List Pl) (w : World) (args : Array Value), F.known = K → Inv F φ w h → DenL F φ w args.toList vs →
    Calls P f args w fun e w' => ∃ u φ' v h', e = .returned u ∧ Ext φ w φ' w' ∧ Inv F φ' w' h' ∧ Den F φ' w' u v ∧ R v h'
theorem Sp.mono {f : FuncId} {vs : List V} {h : List Ho} {R R' : V → List Ho → Prop} (hs : Sp P K f vs h R) (hr : ∀ v h', R v h' → R' v h') : Sp P K f vs h R' :=
  fun F φ w args hK hi hd => (hs F φ w args hK hi hd).mono fun e w' ⟨u, φ', v, h', a, b, c, d, r⟩ => ⟨u, φ', v, h', a, b, c, d, hr v h' r⟩
mutual
def renV (g : Nat → Nat) : V → V
  | .d x => .d x
  | .agg cs => .agg (renL g cs)
  | .tup cs => .tup (renL g cs)
  | .own k es t => .own k es (g t)
  | .full k es => .full k es
  | .ptr o off => .ptr (g o) off
  | .ep c off => .ep c off
  | .hs q k o off n => .hs q k (g o) off n
  | .mp o => .mp (g o)
  | .fn f cs => .fn f (renL g cs)
  | .fnb f cs => .fnb f (renL g cs)
  | .any => .any
  | .ub => .ub
def renL (g : Nat → Nat) : List V → List V
  | [] => []
  | v :: vs => renV g v :: renL g vs
end
theorem renL_map (g : Nat → Nat) : ∀ l : List V, renL g l = l.map (renV g)
  | [] => by simp [renL]
  | v :: vs => by simp [renL, renL_map g vs]
def renO (g : Nat → Nat) : Ho → Ho
  | .cells cs => .cells (renL g cs)
  | .map m => .map (m.mapV (renV g))
  | .tail => .tail
  | .dead => .dead
  | .yet => .yet
theorem renL_get (g : Nat → Nat) (l : List V) (i : Nat) : (renL g l)[i]? = (l[i]?).map (renV g) := by rw [renL_map, List.getElem?_map]
theorem renL_len (g : Nat → Nat) (l : List V) : (renL g l).length = l.length := by rw [renL_map, List.length_map]
theorem DenD.move {F F' : Fr} {φ φ' : List Pl} {w : World} (hp : ∀ b o, prot F φ w b o → prot F' φ' w b o) {r : Value} {x : D} (hd : DenD F φ w r x) : DenD F' φ' w r x := by
  induction hd with
  | sc hx => exact .sc hx
  | nil => exact .nil
  | sl c hn hcap hk hc _ ih => exact .sl c hn hcap hk (fun i j hi hj => ⟨hp _ _ (hc i j hi hj).1, (hc i j hi hj).2⟩) ih
theorem Den.down {F F' : Fr} {φ φ' : List Pl} {w : World} {g : Nat → Nat} (hp : ∀ b o, prot F φ w b o → prot F' φ' w b o) (hg : ∀ i, lv φ (g i) → lv φ' i ∧ φ'[i]? = φ[g i]?) {r : Value} {u : V} (hd : Den F φ w r u) :
    ∀ v, u = renV g v → Den F' φ' w r v := by
  induction hd with
  | d h => intro v e; cases v <;> simp only [renV, reduceCtorEq] at e <;> cases e; exact .d (h.move hp)
  | agg hs h1 _ ih =>
    intro v e; cases v <;> simp only [renV, reduceCtorEq] at e
    cases e
    exact .agg (by rw [hs, renL_len]) h1 fun i r v hr hv => ih i r _ hr (by rw [renL_get, hv]; rfl) v rfl
  | tup hs _ ih =>
    intro v e; cases v <;> simp only [renV, reduceCtorEq] at e
    cases e
    exact .tup (by rw [hs, renL_len]) fun i r v hr hv => ih i r _ hr (by rw [renL_get, hv]; rfl) v rfl
  | own ht h hn hpl hf ho =>
    intro v e; cases v <;> simp only [renV, reduceCtorEq] at e
    cases e
    obtain ⟨h1, h2⟩ := hg _ ht
    exact .own h1 (h.move hp) hn (by rw [h2]; exact hpl) (by rw [h2]; exact hf) (by rw [h2]; exact ho)
  | ownEx ht hh h hn =>
    intro v e; cases v <;> simp only [renV, reduceCtorEq] at e
    cases e
    obtain ⟨h1, h2⟩ := hg _ ht
    exact .ownEx h1 (by rw [h2]; exact hh) (h.move hp) hn
  | full h hn => intro v e; cases v <;> simp only [renV, reduceCtorEq] at e <;> cases e; exact .full (h.move hp) hn
  | ptr ho h =>
    intro v e; cases v <;> simp only [renV, reduceCtorEq] at e
    cases e
    obtain ⟨h1, h2⟩ := hg _ ho
    exact .ptr h1 (by rw [h2]; exact h)
  | ep c ha hc hd => intro v e; cases v <;> simp only [renV, reduceCtorEq] at e <;> cases e; exact .ep c ha (fun j hj => ⟨hp _ _ (hc j hj).1, (hc j hj).2⟩) fun j x hx => (hd j x hx).move hp
  | hs ho h hcap hf =>
    intro v e; cases v <;> simp only [renV, reduceCtorEq] at e
    cases e
    obtain ⟨h1, h2⟩ := hg _ ho
    exact .hs h1 (by rw [h2]; exact h) hcap (by rw [h2]; exact hf)
  | hsE ho ha hcap hsp =>
    intro v e; cases v <;> simp only [renV, reduceCtorEq] at e
    cases e
    obtain ⟨h1, h2⟩ := hg _ ho
    exact .hsE h1 ha hcap hsp
  | hsN ho h =>
    intro v e; cases v <;> simp only [renV, reduceCtorEq] at e
    cases e
    obtain ⟨h1, h2⟩ := hg _ ho
    exact .hsN h1 (by rw [h2]; exact h)
  | any => intro v e; cases v <;> simp only [renV, reduceCtorEq] at e; exact .any
  | ub => intro v e; cases v <;> simp only [renV, reduceCtorEq] at e; exact .ub
  | mp ho h =>
    intro v e; cases v <;> simp only [renV, reduceCtorEq] at e
    cases e
    obtain ⟨h1, h2⟩ := hg _ ho
    exact .mp h1 (by rw [h2]; exact h)
  | fn hs _ ih =>
    intro v e; cases v <;> simp only [renV, reduceCtorEq] at e
    cases e
    exact .fn (by rw [hs, renL_len]) fun i r v hr hv => ih i r _ hr (by rw [renL_get, hv]; rfl) v rfl
  | fnb hs _ ih =>
    intro v e; cases v <;> simp only [renV, reduceCtorEq] at e
    cases e
    exact .fnb (by rw [hs, renL_len]) fun i r v hr hv => ih i r _ hr (by rw [renL_get, hv]; rfl) v rfl
theorem Den.up {F F' : Fr} {φ φ' : List Pl} {w : World} {g : Nat → Nat} (hp : ∀ b o, prot F φ w b o → prot F' φ' w b o) (hg : ∀ i, lv φ i → lv φ' (g i) ∧ φ'[g i]? = φ[i]?) {r : Value} {v : V} (hd : Den F φ w r v) :
    Den F' φ' w r (renV g v) := by
  induction hd with
  | d h => exact .d (h.move hp)
  | agg hs h1 _ ih =>
    refine .agg (by rw [hs, renL_len]) h1 fun i r v hr hv => ?_
    rw [renL_get] at hv
    obtain ⟨x, hx, rfl⟩ := Option.map_eq_some_iff.1 hv
    exact ih i r x hr hx
  | tup hs _ ih =>
    refine .tup (by rw [hs, renL_len]) fun i r v hr hv => ?_
    rw [renL_get] at hv
    obtain ⟨x, hx, rfl⟩ := Option.map_eq_some_iff.1 hv
    exact ih i r x hr hx
  | own ht h hn hpl hf ho =>
    obtain ⟨h1, h2⟩ := hg _ ht
    exact .own h1 (h.move hp) hn (by rw [h2]; exact hpl) (by rw [h2]; exact hf) (by rw [h2]; exact ho)
  | ownEx ht hh h hn =>
    obtain ⟨h1, h2⟩ := hg _ ht
    exact .ownEx h1 (by rw [h2]; exact hh) (h.move hp) hn
  | full h hn => exact .full (h.move hp) hn
  | ptr ho h =>
    obtain ⟨h1, h2⟩ := hg _ ho
    exact .ptr h1 (by rw [h2]; exact h)
  | ep c ha hc hd => exact .ep c ha (fun j hj => ⟨hp _ _ (hc j hj).1, (hc j hj).2⟩) fun j x hx => (hd j x hx).move hp
  | hs ho h hcap hf =>
    obtain ⟨h1, h2⟩ := hg _ ho
    exact .hs h1 (by rw [h2]; exact h) hcap (by rw [h2]; exact hf)
  | hsE ho ha hcap hsp =>
    obtain ⟨h1, h2⟩ := hg _ ho
    exact .hsE h1 ha hcap hsp
  | hsN ho h =>
    obtain ⟨h1, h2⟩ := hg _ ho
    exact .hsN h1 (by rw [h2]; exact h)
  | any => exact .any
  | ub => exact .ub
  | mp ho h =>
    obtain ⟨h1, h2⟩ := hg _ ho
    exact .mp h1 (by rw [h2]; exact h)
  | fn hs _ ih =>
    refine .fn (by rw [hs, renL_len]) fun i r v hr hv => ?_
    rw [renL_get] at hv
    obtain ⟨x, hx, rfl⟩ := Option.map_eq_some_iff.1 hv
    exact ih i r x hr hx
  | fnb hs _ ih =>
    refine .fnb (by rw [hs, renL_len]) fun i r v hr hv => ?_
    rw [renL_get] at hv
    obtain ⟨x, hx, rfl⟩ := Option.map_eq_some_iff.1 hv
    exact ih i r x hr hx
mutual
theorem renV_id : ∀ v : V, renV id v = v
  | .d x => rfl
  | .agg cs => by rw [renV, renL_id cs]
  | .tup cs => by rw [renV, renL_id cs]
  | .own k es t => rfl
  | .full k es => rfl
  | .ptr o off => rfl
  | .ep c off => rfl
  | .hs q k o off n => rfl
  | .any => rfl
  | .ub => rfl
  | .mp o => rfl
  | .fn f cs => by rw [renV, renL_id cs]
  | .fnb f cs => by rw [renV, renL_id cs]
theorem renL_id : ∀ l : List V, renL id l = l
  | [] => rfl
  | v :: vs => by rw [renL, renV_id v, renL_id vs]
end
def trimY : List Ho → List Ho
  | [] => []
  | [.yet] => []
  | o :: l => o :: trimY l
theorem trimY_cases : ∀ h : List Ho, trimY h = h ∨ h = trimY h ++ [.yet]
  | [] => .inl rfl
  | [o] => by cases o <;> first | exact .inr rfl | exact .inl rfl
  | o :: p :: l => by
    have e : trimY (o :: p :: l) = o :: trimY (p :: l) := by cases o <;> rfl
    rw [e]
    rcases trimY_cases (p :: l) with h | h
    · exact .inl (by rw [h])
    · exact .inr (by rw [List.cons_append, ← h])
theorem Inv.same {F : Fr} {φ φ' : List Pl} {w : World} {h h' : List Ho} (hi : Inv F φ w h) (hl : φ'.length = h'.length) (hp : ∀ b o, prot F φ w b o → prot F φ' w b o) (hlv : ∀ i, lv φ i → lv φ' i ∧ φ'[i]? = φ[i]?)
    (hs : ∀ (i : Nat) (p : Pl), φ'[i]? = some p → φ[i]? = some p) (hh : ∀ (i : Nat) (o : Ho), h'[i]? = some o → h[i]? = some o) : Inv F φ' w h' := by
  have mv : ∀ {r : Value} {v : V}, Den F φ w r v → Den F φ' w r v := fun hd => hd.down (g := id) hp hlv _ (renV_id _).symm
  refine ⟨hl, fun i p o h1 h2 => ?_, fun i j p q b h1 h2 => hi.apart i j p q b (hs i p h1) (hs j q h2), hi.frB, fun i p b o h1 => hi.frO i p b o (hs i p h1), fun b x hx => ⟨(hi.frK b x hx).1, fun i p h1 => (hi.frK b x hx).2 i p (hs i p h1)⟩⟩
  have hok := hi.ok i p o (hs i p h1) (hh i o h2)
  cases p <;> cases o <;> first | exact hok.elim | skip
  · obtain ⟨arr, a, z0, b, c⟩ := hok
    exact ⟨arr, a, z0, b, fun j v hv => let ⟨u, x, y, z⟩ := c j v hv; ⟨u, x, y, mv z⟩⟩
  · obtain ⟨ents, clock, a, b, c⟩ := hok
    exact ⟨ents, clock, a, b, fun j m e hm he => ⟨(c j m e hm he).1, mv (c j m e hm he).2⟩⟩
  all_goals exact hok
theorem trim_all {F : Fr} {φ0 φ : List Pl} {w0 w : World} {h : List Ho} (he : Ext φ0 w0 φ w) (hl0 : φ0.length + 1 ≤ φ.length) (hi : Inv F φ w h) : ∃ φ', Ext φ0 w0 φ' w ∧ Inv F φ' w (trimY h) ∧ ∀ {r : Value} {v : V}, Den F φ w r v → Den F φ' w r v := by
  rcases trimY_cases h with e | e
  · rw [e]; exact ⟨φ, he, hi, fun hd => hd⟩
  · generalize trimY h = h1 at e ⊢
    subst e
    have hlen := hi.len
    have hn : h1.length + 1 = (h1 ++ [Ho.yet]).length := by simp
    have hlast : (h1 ++ [Ho.yet])[h1.length]? = some .yet := by simp
    have hpl : φ[h1.length]? = some .yet := by
      obtain ⟨p, hp⟩ := ofLtL (xs := φ) (i := h1.length) (by omega)
      have := hi.ok _ p _ hp hlast
      cases p <;> first | exact this.elim | exact hp
    have hs : ∀ (i : Nat) (p : Pl), (φ.take h1.length)[i]? = some p → φ[i]? = some p := fun i p hp => by
      rw [List.getElem?_take] at hp
      split at hp
      · exact hp
      · cases hp
    have hin : ∀ i, i < h1.length → (φ.take h1.length)[i]? = φ[i]? := fun i hlt => by rw [List.getElem?_take, if_pos hlt]
    have hlv : ∀ i, lv φ i → lv (φ.take h1.length) i ∧ (φ.take h1.length)[i]? = φ[i]? := fun i hx => by
      obtain ⟨p, hp, hne⟩ := hx
      have hlt := get_lt hp
      have : i ≠ h1.length := fun e => by subst e; rw [hpl] at hp; cases hp; exact hne rfl
      have e2 := hin i (by omega)
      exact ⟨⟨p, by rw [e2]; exact hp, hne⟩, e2⟩
    have hp : ∀ b o, prot F φ w b o → prot F (φ.take h1.length) w b o := fun b o ⟨a1, a2, a3, a4⟩ => ⟨a1, fun i hx => a2 i (hs i _ hx), fun i e hx => a3 i e (hs i _ hx), a4⟩
    refine ⟨φ.take h1.length, ?_, hi.same (by simp; omega) hp hlv hs (fun i o ho => ?_), fun hd => hd.down (g := id) hp hlv _ (renV_id _).symm⟩
    · refine ⟨he.size, by simp; omega, fun i hx => ?_, he.keep, he.tail, fun i b hx => he.objs i b (hs i _ hx), fun i b e' hx => he.tails i b e' (hs i _ hx), he.io⟩
      rw [(hlv i (lv_ext he hx)).2]
      exact he.old i hx
    · have hlt := get_lt ho
      rw [List.getElem?_append_left hlt]; exact ho
def gOf (ρ : List Nat) (base : Nat) (i : Nat) : Nat := match ρ[i]? with
  | some j => j
  | none => base + (i - ρ.length)
def setAll {α : Type} : List α → List Nat → List α → List α
  | h, j :: ρ, o :: os => setAll (h.set j o) ρ os
  | h, _, _ => h
def mergeH {α : Type} (h : List α) (ρ : List Nat) (hl : List α) : List α := setAll h ρ (hl.take ρ.length) ++ hl.drop ρ.length
theorem setAll_len {α : Type} : ∀ (ρ : List Nat) (os h : List α), (setAll h ρ os).length = h.length
  | [], os, h => by cases os <;> rfl
  | j :: ρ, [], h => rfl
  | j :: ρ, o :: os, h => by simp [setAll, setAll_len ρ os]
theorem setAll_not {α : Type} : ∀ (ρ : List Nat) (os h : List α) (j : Nat), j ∉ ρ → (setAll h ρ os)[j]? = h[j]?
  | [], os, h, j, _ => by cases os <;> rfl
  | i :: ρ, [], h, j, _ => rfl
  | i :: ρ, o :: os, h, j, hj => by
    simp only [List.mem_cons, not_or] at hj
    rw [setAll, setAll_not ρ os _ j hj.2, List.getElem?_set_ne (fun e => hj.1 e.symm)]
theorem setAll_at {α : Type} : ∀ (ρ : List Nat) (os h : List α), ρ.Nodup → ρ.length = os.length → (∀ j ∈ ρ, j < h.length) → ∀ (i j : Nat), ρ[i]? = some j → (setAll h ρ os)[j]? = os[i]?
  | [], os, h, _, _, _, i, j, hi => by simp at hi
  | k :: ρ, [], h, _, hl, _, _, _, _ => by simp at hl
  | k :: ρ, o :: os, h, hn, hl, hb, i, j, hi => by
    simp only [List.nodup_cons] at hn
    cases i with
    | zero =>
      simp at hi; subst hi
      rw [setAll, setAll_not ρ os _ k hn.1, List.getElem?_set_self (hb k (by simp))]; rfl
    | succ i =>
      simp at hi
      have := setAll_at ρ os (h.set k o) hn.2 (by simpa using hl) (fun j hj => by simpa using hb j (by simp [hj])) i j hi
      simpa [setAll] using this
theorem Sp.frame {f : FuncId} {vs vs' : List V} {h hl : List Ho} {R N : V → List Ho → Prop} (hs : Sp P K f vs' hl R) (ρ : List Nat) (hn : ρ.Nodup) (hlen : ρ.length = hl.length)
    (hpick : ∀ (i j : Nat) (o : Ho), ρ[i]? = some j → hl[i]? = some o → h[j]? = some (renO (gOf ρ h.length) o))
    (hb : ∀ j ∈ ρ, j < h.length)
    (hv : ∀ (F : Fr) (φ : List Pl) (w : World) (rs : List Value), DenL F φ w rs vs → DenL F φ w rs (vs'.map (renV (gOf ρ h.length))))
    (hk : ∀ (v : V) (hl' : List Ho), R v hl' → N (renV (gOf ρ h.length) v) (mergeH h ρ (hl'.map (renO (gOf ρ h.length))))) : Sp P K f vs h N := by
  intro F φ w args hK hi hd
  have hφ : ∀ j ∈ ρ, j < φ.length := fun j hj => by rw [hi.len]; exact hb j hj
  -- the callee's side
  let φl : List Pl := ρ.map fun j => (φ[j]?).getD .dead
  have hφl : ∀ i : Nat, φl[i]? = (ρ[i]?).bind fun j => φ[j]? := fun i => by
    simp only [φl, List.getElem?_map]
    cases hr : ρ[i]? with
    | none => rfl
    | some j =>
      obtain ⟨p, hp⟩ := ofLtL (hφ j (List.mem_of_getElem? hr))
      simp [hp]
  have hlφ : φl.length = ρ.length := by simp [φl]
  let F' : Fr := ⟨fun b o => F.shut b o ∨ ∃ (j : Nat) (p : Pl), φ[j]? = some p ∧ j ∉ ρ ∧ ((∃ z, p = .obj b z) ∨ ∃ e, p = .tail b e ∧ e ≤ o), F.known⟩
  have old : ∀ (i : Nat) (p : Pl), φl[i]? = some p → ∃ j, ρ[i]? = some j ∧ φ[j]? = some p := fun i p hp => by
    rw [hφl] at hp
    cases hr : ρ[i]? with
    | none => rw [hr] at hp; cases hp
    | some j => rw [hr] at hp; exact ⟨j, rfl, hp⟩
  have pdown : ∀ b o, prot F φ w b o → prot F' φl w b o := fun b o ⟨h1, h2, h3, h4⟩ =>
    ⟨h1, fun i hi' => by obtain ⟨j, _, hj⟩ := old i _ hi'; exact h2 j hj, fun i e hi' => by obtain ⟨j, _, hj⟩ := old i _ hi'; exact h3 j e hj, fun hF => by
      rcases hF with hF | ⟨j, p, hj, _, ⟨z, rfl⟩ | ⟨e, rfl, hle⟩⟩
      · exact h4 hF
      · exact h2 j hj
      · have := h3 j e hj; omega⟩
  have gdown : ∀ i, lv φ (gOf ρ h.length i) → lv φl i ∧ φl[i]? = φ[gOf ρ h.length i]? := fun i hlv => by
    unfold gOf at hlv ⊢
    cases hr : ρ[i]? with
    | none =>
      rw [hr] at hlv
      obtain ⟨p, hp, _⟩ := hlv
      have := get_lt hp
      simp only [hi.len] at this; omega
    | some j =>
      rw [hr] at hlv
      obtain ⟨p, hp, hne⟩ := hlv
      have e : φl[i]? = φ[j]? := by rw [hφl, hr]; rfl
      exact ⟨⟨p, by rw [e]; exact hp, hne⟩, e⟩
  have hinvl : Inv F' φl w hl := by
    refine ⟨by rw [hlφ, hlen], fun i p o hp ho => ?_, fun i j p q b hp hq hb1 hb2 => ?_, fun b o hF => ?_, fun i p b o hp hb1 hF => ?_, fun b x hx => ?_⟩
    · obtain ⟨j, hr, hj⟩ := old i p hp
      have hok := hi.ok j p _ hj (hpick i j o hr ho)
      cases p <;> cases o <;> simp only [ObOk, renO] at hok ⊢
      · obtain ⟨arr, hr, hz, hl, hd⟩ := hok
        refine ⟨arr, hr, hz, by rw [renL_len] at hl; exact hl, fun k v hv => ?_⟩
        obtain ⟨u, h1, h2, h3⟩ := hd k _ (by rw [renL_get, hv]; rfl)
        exact ⟨u, h1, h2, h3.down pdown gdown v rfl⟩
      · obtain ⟨ents, clock, hr, hl, hd⟩ := hok
        refine ⟨ents, clock, hr, by simpa [GM.mapV] using hl, fun k m e hm he => ?_⟩
        obtain ⟨h1, h2⟩ := hd k m ⟨e.born, e.key, renV _ e.val⟩ hm (by simp only [GM.mapV, List.getElem?_map, he]; rfl)
        exact ⟨h1, h2.down pdown gdown _ rfl⟩
      · exact hok
      · rename_i cs; cases cs with
        | nil => rfl
        | cons a l => simp [renL] at hok
    · obtain ⟨i', hr, hj⟩ := old i p hp
      obtain ⟨j', hr', hj'⟩ := old j q hq
      have := hi.apart i' j' p q b hj hj' hb1 hb2
      subst this
      exact (List.getElem?_inj (get_lt hr) hn).1 (by rw [hr, hr'])
    · rcases hF with hF | ⟨j, p, hj, _, ⟨z, rfl⟩ | ⟨e, rfl, hle⟩⟩
      · exact hi.frB b o hF
      · exact hi.lt hj rfl
      · exact hi.lt hj rfl
    · obtain ⟨i', hr, hi'⟩ := old i p hp
      rcases hF with hF | ⟨j, q, hj, hjn, hq⟩
      · exact hi.frO i' p b o hi' hb1 hF
      · have : i' = j := hi.apart i' j p q b hi' hj hb1 (by rcases hq with ⟨z, rfl⟩ | ⟨e, rfl, _⟩ <;> rfl)
        subst this
        exact hjn (List.mem_of_getElem? hr)
    · obtain ⟨h1, h2⟩ := hi.frK b x hx
      exact ⟨h1, fun i p hp => by obtain ⟨j, _, hj⟩ := old i p hp; exact h2 j p hj⟩
  have hdl : DenL F' φl w args.toList vs' := by
    have h1 := hv F φ w _ hd
    refine .of_get (by have := h1.length; simpa using this) fun i r v hr hvv => ?_
    exact (h1.get i r _ hr (by rw [List.getElem?_map, hvv]; rfl)).down pdown gdown v rfl
  refine (hs F' φl w args hK hinvl hdl).mono ?_
  rintro e w' ⟨u, φl', v, hl', rfl, he, hil, hdv, hR⟩
  -- back at the caller's
  have hkl : ρ.length ≤ φl'.length := by rw [← hlφ]; exact he.len
  have htk : (φl'.take ρ.length).length = ρ.length := by simp; omega
  let φ' : List Pl := mergeH φ ρ φl'
  have hlen' : φ'.length = φ.length + (φl'.length - ρ.length) := by simp [φ', mergeH, setAll_len]
  have gin : ∀ (i j : Nat), ρ[i]? = some j → φ'[j]? = φl'[i]? := fun i j hr => by
    have hj : j < φ.length := hφ j (List.mem_of_getElem? hr)
    simp only [φ', mergeH]
    rw [List.getElem?_append_left (by rw [setAll_len]; exact hj), setAll_at ρ _ φ hn htk.symm hφ i j hr, List.getElem?_take, if_pos (get_lt hr)]
  have gout : ∀ j, j < φ.length → j ∉ ρ → φ'[j]? = φ[j]? := fun j hj hjn => by
    simp only [φ', mergeH]
    rw [List.getElem?_append_left (by rw [setAll_len]; exact hj), setAll_not ρ _ φ j hjn]
  have gnew : ∀ i, ρ.length ≤ i → φ'[φ.length + (i - ρ.length)]? = φl'[i]? := fun i hi' => by
    simp only [φ', mergeH]
    rw [List.getElem?_append_right (by rw [setAll_len]; omega), setAll_len, List.getElem?_drop]
    congr 1; omega
  -- where an entry of the merged list comes from
  have src : ∀ (x : Nat) (p : Pl), φ'[x]? = some p → (∃ i, φl'[i]? = some p ∧ x = gOf ρ h.length i) ∨ (x < φ.length ∧ x ∉ ρ ∧ φ[x]? = some p) := fun x p hp => by
    by_cases hx : x < φ.length
    · by_cases hm : x ∈ ρ
      · obtain ⟨i, hi'⟩ := List.mem_iff_getElem?.1 hm
        exact .inl ⟨i, by rw [← gin i x hi']; exact hp, by unfold gOf; rw [hi']⟩
      · exact .inr ⟨hx, hm, by rw [← gout x hx hm]; exact hp⟩
    · have hlt := get_lt hp
      rw [hlen'] at hlt
      have e : x = φ.length + ((x - φ.length + ρ.length) - ρ.length) := by omega
      refine .inl ⟨x - φ.length + ρ.length, ?_, ?_⟩
      · rw [← gnew _ (by omega), ← e]; exact hp
      · unfold gOf
        rw [List.getElem?_eq_none (by omega), ← hi.len]; omega
  have gup : ∀ i, lv φl' i → lv φ' (gOf ρ h.length i) ∧ φ'[gOf ρ h.length i]? = φl'[i]? := fun i hlv => by
    obtain ⟨p, hp, hne⟩ := hlv
    have e : φ'[gOf ρ h.length i]? = φl'[i]? := by
      unfold gOf
      cases hr : ρ[i]? with
      | some j => exact gin i j hr
      | none =>
        have hge : ρ.length ≤ i := List.getElem?_eq_none_iff.1 hr
        simp only [← hi.len]
        exact gnew i hge
    exact ⟨⟨p, by rw [e]; exact hp, hne⟩, e⟩
  have notin : ∀ (j : Nat) (p : Pl) (b : Nat), φ[j]? = some p → j ∉ ρ → p.blk = some b → ∀ (i : Nat) (q : Pl), φl[i]? = some q → q.blk ≠ some b := fun j p b hj hjn hpb i q hq hqb => by
    obtain ⟨i', hr, hi'⟩ := old i q hq
    have := hi.apart i' j q p b hi' hj hqb hpb
    subst this
    exact hjn (List.mem_of_getElem? hr)
  have oldl : ∀ (i : Nat) (p : Pl) (b : Nat), φl'[i]? = some p → p.blk = some b → b < w.heap.size → ∃ (j : Nat) (q : Pl), j ∈ ρ ∧ φ[j]? = some q ∧ q.blk = some b := fun i p b hp hpb hlt => by
    have h0 : ∃ (i' : Nat) (q : Pl), φl[i']? = some q ∧ q.blk = some b := by
      cases p with
      | obj b' z => cases hpb; obtain ⟨j, _, hj⟩ := he.objs i b hp hlt; exact ⟨j, _, hj, rfl⟩
      | tail b' e' =>
        cases hpb
        rcases he.tails i b e' hp hlt with ⟨j, e2, hj, _⟩ | ⟨j, _, hj⟩
        · exact ⟨j, _, hj, rfl⟩
        · exact ⟨j, _, hj, rfl⟩
      | free => cases hpb
      | dead => cases hpb
      | yet => cases hpb
    obtain ⟨i', q, hq, hqb⟩ := h0
    obtain ⟨j, hr, hj⟩ := old i' q hq
    exact ⟨j, q, List.mem_of_getElem? hr, hj, hqb⟩
  have hext : Ext φ w φ' w' := by
    refine ⟨he.size, by rw [hlen']; omega, fun x hx => ?_, fun b hlt hno => ?_, fun x b e2 hx c T fr hc => ?_, fun x b hp hlt => ?_, fun x b e' hp hlt => ?_, he.io⟩
    · obtain ⟨p, hp, hne⟩ := hx
      have hx := get_lt hp
      by_cases hm : x ∈ ρ
      · obtain ⟨i, hi'⟩ := List.mem_iff_getElem?.1 hm
        rw [gin i x hi']
        have e : φl[i]? = φ[x]? := by rw [hφl, hi']; rfl
        have := he.old i ⟨p, by rw [e]; exact hp, hne⟩
        rw [e] at this
        exact this
      · exact .inl (gout x hx hm)
    · exact he.keep b hlt fun i p hp => by obtain ⟨j, _, hj⟩ := old i p hp; exact hno j p hj
    · by_cases hm : x ∈ ρ
      · obtain ⟨i, hi'⟩ := List.mem_iff_getElem?.1 hm
        exact he.tail i b e2 (by rw [hφl, hi']; exact hx) c T fr hc
      · refine ⟨c, ?_, rfl, fun _ _ => rfl⟩
        rw [he.keep b (heap_lt hc) (notin x _ b hx hm rfl)]; exact hc
    · rcases src x _ hp with ⟨i, hi', _⟩ | ⟨_, _, hx⟩
      · obtain ⟨j, _, hj⟩ := he.objs i b hi' hlt
        obtain ⟨j', _, hj'⟩ := old j _ hj
        exact ⟨j', _, hj'⟩
      · exact ⟨x, _, hx⟩
    · rcases src x _ hp with ⟨i, hi', _⟩ | ⟨_, _, hx⟩
      · rcases he.tails i b e' hi' hlt with ⟨j, e2, hj, hle⟩ | ⟨j, _, hj⟩
        · obtain ⟨j', _, hj'⟩ := old j _ hj
          exact .inl ⟨j', e2, hj', hle⟩
        · obtain ⟨j', _, hj'⟩ := old j _ hj
          exact .inr ⟨j', _, hj'⟩
      · exact .inl ⟨x, e', hx, Nat.le_refl _⟩
  have pup : ∀ b o, prot F' φl' w' b o → prot F φ' w' b o := fun b o ⟨h1, h2, h3, h4⟩ => by
    refine ⟨h1, fun x hx => ?_, fun x e2 hx => ?_, fun hF => h4 (.inl hF)⟩
    · rcases src x _ hx with ⟨i, hi', _⟩ | ⟨_, hjn, hx'⟩
      · exact h2 i hi'
      · exact h4 (.inr ⟨x, _, hx', hjn, .inl ⟨_, rfl⟩⟩)
    · rcases src x _ hx with ⟨i, hi', _⟩ | ⟨_, hjn, hx'⟩
      · exact h3 i e2 hi'
      · by_cases hle : e2 ≤ o
        · exact absurd (.inr ⟨x, _, hx', hjn, .inr ⟨e2, rfl, hle⟩⟩) h4
        · omega
  have hmap : (hl'.map (renO (gOf ρ h.length))).length = hl'.length := by simp
  have hkl' : ρ.length ≤ hl'.length := by rw [← hil.len]; exact hkl
  have hobj : ∀ (x : Nat) (o : Ho), (mergeH h ρ (hl'.map (renO (gOf ρ h.length))))[x]? = some o → (∃ (i : Nat) (o' : Ho), hl'[i]? = some o' ∧ x = gOf ρ h.length i ∧ o = renO (gOf ρ h.length) o') ∨ (x < φ.length ∧ x ∉ ρ ∧ h[x]? = some o) := fun x o ho => by
    have htk2 : ((hl'.map (renO (gOf ρ h.length))).take ρ.length).length = ρ.length := by simp; omega
    unfold mergeH at ho
    by_cases hx : x < h.length
    · rw [List.getElem?_append_left (by rw [setAll_len]; exact hx)] at ho
      by_cases hm : x ∈ ρ
      · obtain ⟨i, hi'⟩ := List.mem_iff_getElem?.1 hm
        rw [setAll_at ρ _ h hn htk2.symm hb i x hi', List.getElem?_take, if_pos (get_lt hi'), List.getElem?_map] at ho
        obtain ⟨o', ho', rfl⟩ := Option.map_eq_some_iff.1 ho
        exact .inl ⟨i, o', ho', by unfold gOf; rw [hi'], rfl⟩
      · rw [setAll_not ρ _ h x hm] at ho
        exact .inr ⟨by rw [hi.len]; exact hx, hm, ho⟩
    · rw [List.getElem?_append_right (by rw [setAll_len]; omega), setAll_len, List.getElem?_drop, List.getElem?_map] at ho
      obtain ⟨o', ho', rfl⟩ := Option.map_eq_some_iff.1 ho
      refine .inl ⟨_, o', ho', ?_, rfl⟩
      unfold gOf
      rw [List.getElem?_eq_none (by omega)]
      dsimp only
      omega
  have gne : ∀ i x, x < φ.length → x ∉ ρ → x ≠ gOf ρ h.length i := fun i x hx hm e => by
    unfold gOf at e
    cases hr : ρ[i]? with
    | some j => rw [hr] at e; exact hm (e ▸ List.mem_of_getElem? hr)
    | none => rw [hr] at e; simp only [← hi.len] at e; omega
  have ginj : ∀ i j, gOf ρ h.length i = gOf ρ h.length j → i = j := fun i j e => by
    unfold gOf at e
    cases hr : ρ[i]? with
    | some x =>
      rw [hr] at e
      cases hr' : ρ[j]? with
      | some y =>
        rw [hr'] at e
        simp only at e
        subst e
        exact (List.getElem?_inj (get_lt hr) hn).1 (by rw [hr, hr'])
      | none =>
        rw [hr'] at e
        have := hb x (List.mem_of_getElem? hr)
        simp only at e; omega
    | none =>
      rw [hr] at e
      have h1 := List.getElem?_eq_none_iff.1 hr
      cases hr' : ρ[j]? with
      | some y =>
        rw [hr'] at e
        have := hb y (List.mem_of_getElem? hr')
        simp only at e; omega
      | none =>
        rw [hr'] at e
        have h2 := List.getElem?_eq_none_iff.1 hr'
        simp only at e; omega
  have hinv : Inv F φ' w' (mergeH h ρ (hl'.map (renO (gOf ρ h.length)))) := by
    refine ⟨?_, fun x p o hp ho => ?_, fun x y p q b hp hq hb1 hb2 => ?_, fun b o hF => Nat.lt_of_lt_of_le (hi.frB b o hF) he.size, fun x p b o hp hb1 hF => ?_, fun b y hy => ?_⟩
    · rw [hlen', hil.len, hi.len]; simp [mergeH, setAll_len]
    · rcases src x p hp with ⟨i, hi', rfl⟩ | ⟨hx, hm, hx'⟩
      · rcases hobj _ o ho with ⟨i2, o', ho', e1, rfl⟩ | ⟨h1, h2, _⟩
        · have := ginj _ _ e1
          subst this
          have hok := hil.ok i p o' hi' ho'
          cases p <;> cases o' <;> simp only [ObOk, renO] at hok ⊢
          · obtain ⟨arr, hr, hz, hl, hd⟩ := hok
            refine ⟨arr, hr, hz, by rw [renL_len]; exact hl, fun k v hv => ?_⟩
            rw [renL_get] at hv
            obtain ⟨y, hy, rfl⟩ := Option.map_eq_some_iff.1 hv
            obtain ⟨u, h1, h2, h3⟩ := hd k y hy
            exact ⟨u, h1, h2, h3.up pup gup⟩
          · obtain ⟨ents, clock, hr, hl, hd⟩ := hok
            refine ⟨ents, clock, hr, by simpa [GM.mapV] using hl, fun k m e hm he => ?_⟩
            simp only [GM.mapV, List.getElem?_map] at he
            obtain ⟨y, hy, rfl⟩ := Option.map_eq_some_iff.1 he
            obtain ⟨h1, h2⟩ := hd k m y hm hy
            exact ⟨h1, h2.up pup gup⟩
          · exact hok
          · subst hok; rfl
        · exact absurd rfl (gne i _ h1 h2)
      · rcases hobj x o ho with ⟨i2, o', ho', e1, rfl⟩ | ⟨h1, h2, ho'⟩
        · exact absurd e1 (gne i2 x hx hm)
        · exact (hi.ok x p o hx' ho').ext hext fun b hpb => he.keep b (hi.lt hx' hpb) (notin x p b hx' hm hpb)
    · rcases src x p hp with ⟨i, hi', rfl⟩ | ⟨hx, hm, hx'⟩ <;> rcases src y q hq with ⟨j, hj', rfl⟩ | ⟨hy, hm2, hy'⟩
      · rw [hil.apart i j p q b hi' hj' hb1 hb2]
      · exfalso
        have hlt := hi.lt hy' hb2
        obtain ⟨j, q', hjm, hj, hqb⟩ := oldl i p b hi' hb1 hlt
        have := hi.apart j y q' q b hj hy' hqb hb2
        subst this; exact hm2 hjm
      · exfalso
        have hlt := hi.lt hx' hb1
        obtain ⟨j', q', hjm, hj, hqb⟩ := oldl j q b hj' hb2 hlt
        have := hi.apart j' x q' p b hj hx' hqb hb1
        subst this; exact hm hjm
      · exact hi.apart x y p q b hx' hy' hb1 hb2
    · rcases src x p hp with ⟨i, hi', rfl⟩ | ⟨hx, hm, hx'⟩
      · exact hil.frO i p b o hi' hb1 (.inl hF)
      · exact hi.frO x p b o hx' hb1 hF
    · obtain ⟨h1, h2⟩ := hil.frK b y hy
      refine ⟨h1, fun x p hp => ?_⟩
      rcases src x p hp with ⟨i, hi', rfl⟩ | ⟨hx, hm, hx'⟩
      · exact h2 i p hi'
      · exact (hi.frK b y hy).2 x p hx'
  exact ⟨u, φ', _, _, rfl, hext, hinv, hdv.up pup gup, hk v hl' hR⟩
end
section
open Go Go.RowKit
set_option linter.unusedVariables false
set_option linter.unusedSimpArgs false
variable {F : Fr} {P : Program} {M : Oper → TypeId → Bool} {K : Nat → Obj → Prop} {n0 : Nat}
structure Sv where
  tm : List V
  h : List Ho
def putV (tm : List V) (d : Option Tmp) (v : V) : List V := match d with
  | some t => tm.set t v
  | none => tm
def RelA (F : Fr) (φ0 : List Pl) (w0 : World) (st : Sv) (a : Act) (w : World) : Prop :=
  ∃ φ, Ext φ0 w0 φ w ∧ Inv F φ w st.h ∧ RelT F φ w a.tmps st.tm ∧ a.defers = []
def okE : Exit → Bool
  | .goto _ | .outgrown => false
  | _ => true
def WPV (P : Program) (K : Nat → Obj → Prop) (n0 : Nat) (c : Code) (Q : Exit → Sv → Prop) (st : Sv) : Prop :=
  ∀ (F : Fr) (φ0 : List Pl) (w0 : World) (h0 : List Ho), F.known = K → h0.length = n0 → Inv F φ0 w0 h0 → ∀ a w, RelA F φ0 w0 st a w →
    c.wp P (fun e a' w' => okE e = true ∧ ∃ st', RelA F φ0 w0 st' a' w' ∧ Q e st') a w
theorem WPV.mono {c : Code} {Q Q' : Exit → Sv → Prop} {st : Sv} (h : WPV P K n0 c Q st) (hq : ∀ e st, Q e st → Q' e st) : WPV P K n0 c Q' st :=
  fun F φ0 w0 h0 hK hn hi a w hr => wp_mono (h F φ0 w0 h0 hK hn hi a w hr) fun e a w ⟨ho, st', h1, h2⟩ => ⟨ho, st', h1, hq e st' h2⟩
def Br (b : Bool) (A B : Prop) : Prop := (b = true → A) ∧ (b = false → B)
theorem Br.mk {b : Bool} {A B : Prop} (h : b = true → A) (h' : b = false → B) : Br b A B := ⟨h, h'⟩
theorem Br_true {A B : Prop} : Br true A B = A := by simp [Br]
theorem Br_false {A B : Prop} : Br false A B = B := by simp [Br]
theorem Br_not {b : Bool} {A B : Prop} : Br (!b) A B = Br b B A := by cases b <;> simp [Br]
def boolV : Option V → Option Bool
  | some (.d (.sc (.bool b))) => some b
  | _ => none
def brO (o : Option Bool) (A B : Prop) : Prop := match o with
  | some b => Br b A B
  | none => False
theorem brO_some {b : Bool} {A B : Prop} : brO (some b) A B = Br b A B := rfl
def thenV (next : Sv → Prop) (Q : Exit → Sv → Prop) : Exit → Sv → Prop
  | .normal, st => next st
  | e, st => Q e st
def blockV (id : Nat) (Q : Exit → Sv → Prop) : Exit → Sv → Prop
  | .exit id', st => if id' = id then Q .normal st else Q (.exit id') st
  | e, st => Q e st
theorem exitTo_len : ∀ (id : Nat) (k k' : List Item), exitTo id k = some k' → k'.length ≤ k.length
  | id, [], k', h => by simp [exitTo] at h
  | id, x :: k, k', h => by
    have ih := exitTo_len id k k'
    have h2 : exitTo id (x :: k) = exitTo id k ∨ exitTo id (x :: k) = some k := by
      cases x <;> simp only [exitTo, true_or]
      split
      · exact .inr rfl
      · exact .inl rfl
    rcases h2 with e | e
    · rw [e] at h
      have := ih h
      simp; omega
    · rw [e] at h; cases h; simp
theorem Steps.tail {m m1 m' : Machine} (h : Steps P m m') (h1 : step P m = .next m1) (hne : m ≠ m') : Steps P m1 m' := by
  obtain ⟨n, hn⟩ := h
  cases n with
  | zero => simp only [runN] at hn; cases hn; exact absurd rfl hne
  | succ n =>
    simp only [runN, h1] at hn
    exact ⟨n, hn⟩
theorem wp_loop_unroll {c : Code} {Q : Exit → Act → World → Prop} {a : Act} {w : World} (hg : ∀ e a w, Q e a w → okE e = true) (h : c.wp P (Exit.then ((Code.loop c).wp P Q) Q) a w) : (Code.loop c).wp P Q a w := by
  intro b k cs
  obtain ⟨e, a₁, w₁, hq, harr⟩ := h b (.inLoop c :: k) cs
  cases e with
  | normal =>
    obtain ⟨e₂, a₂, w₂, hq₂, harr₂⟩ := hq b k cs
    have hm : Steps P (lone (b.at a (.code (.loop c) :: k)) cs w) (lone (b.at a₁ (.code c :: .inLoop c :: k)) cs w₁) := .head step_loop (Steps.trans harr (.one step_inLoop))
    have hs := step_loop (P := P) (b := b) (a := a₁) (k := k) (cs := cs) (w := w₁) (c := c)
    refine ⟨e₂, a₂, w₂, hq₂, .of_steps hm ?_⟩
    have hok := hg _ _ _ hq₂
    have todo : ∀ {a a' : Act} {t t' : List Item} {w w' : World}, lone (b.at a t) cs w = lone (b.at a' t') cs w' → t = t' := fun e => by
      have h1 := congrArg (fun m => (m.gs[0]?).map (·.frame.todo)) e
      simpa [lone, Frame.at] using h1
    cases e₂ with
    | normal => exact Steps.tail harr₂ hs fun e => by have := congrArg List.length (todo e); simp at this
    | exit id =>
      refine fun k' hk => Steps.tail (harr₂ k' hk) hs fun e => ?_
      have h1 := todo e
      have h2 := exitTo_len id k k' hk
      rw [← h1] at h2
      simp at h2
      omega
    | goto l => simp [okE] at hok
    | ret =>
      obtain ⟨t, ht⟩ := harr₂
      exact ⟨t, Steps.tail ht hs fun e => by
        have h1 := congrArg (fun m => (m.gs[0]?).map (·.frame.mode)) e
        simp [lone, Frame.at] at h1⟩
    | panic ch =>
      obtain ⟨t, ht⟩ := harr₂
      exact ⟨t, Steps.tail ht hs fun e => by
        have h1 := congrArg (fun m => (m.gs[0]?).map (·.frame.mode)) e
        simp [lone, Frame.at] at h1⟩
    | outgrown => simp [okE] at hok
  | exit id => exact ⟨_, a₁, w₁, hq, .of_steps (.one step_loop) (.pass (x := .inLoop c) rfl (fun _ _ => .inl (by simp)) harr)⟩
  | goto l => exact ⟨_, a₁, w₁, hq, .of_steps (.one step_loop) (.pass (x := .inLoop c) rfl (fun _ _ => .inl (by simp)) harr)⟩
  | ret => exact ⟨_, a₁, w₁, hq, .of_steps (.one step_loop) (.pass (x := .inLoop c) rfl (fun _ _ => .inl (by simp)) harr)⟩
  | panic ch => exact ⟨_, a₁, w₁, hq, .of_steps (.one step_loop) (.pass (x := .inLoop c) rfl (fun _ _ => .inl (by simp)) harr)⟩
  | outgrown => exact ⟨_, a₁, w₁, hq, .of_steps (.one step_loop) (.pass (x := .inLoop c) rfl (fun _ _ => .inl (by simp)) harr)⟩
theorem WPV.skip {Q : Exit → Sv → Prop} {st : Sv} (h : Q .normal st) : WPV P K n0 .skip Q st :=
  fun F φ0 w0 h0 hK hn hi a w hr => wp_skip ⟨rfl, st, hr, h⟩
theorem WPV.label {l : Nat} {Q : Exit → Sv → Prop} {st : Sv} (h : Q .normal st) : WPV P K n0 (.label l) Q st :=
  fun F φ0 w0 h0 hK hn hi a w hr => wp_label ⟨rfl, st, hr, h⟩
theorem WPV.exit {id : Nat} {Q : Exit → Sv → Prop} {st : Sv} (h : Q (.exit id) st) : WPV P K n0 (.exit id) Q st :=
  fun F φ0 w0 h0 hK hn hi a w hr => wp_exit ⟨rfl, st, hr, h⟩
theorem WPV.ret {Q : Exit → Sv → Prop} {st : Sv} (h : Q .ret st) : WPV P K n0 .ret Q st :=
  fun F φ0 w0 h0 hK hn hi a w hr => wp_ret ⟨rfl, st, hr, h⟩
theorem WPV.seq {x y : Code} {Q : Exit → Sv → Prop} {st : Sv} (h : WPV P K n0 x (thenV (WPV P K n0 y Q) Q) st) : WPV P K n0 (.seq x y) Q st :=
  fun F φ0 w0 h0 hK hn hi a w hr => wp_seq (wp_mono (h F φ0 w0 h0 hK hn hi a w hr) fun e a w ⟨ho, st', h1, h2⟩ => by
    cases e with
    | normal => exact h2 F φ0 w0 h0 hK hn hi a w h1
    | _ => exact ⟨ho, st', h1, h2⟩)
theorem WPV.block {id : Nat} {x : Code} {Q : Exit → Sv → Prop} {st : Sv} (h : WPV P K n0 x (blockV id Q) st) : WPV P K n0 (.block id x) Q st :=
  fun F φ0 w0 h0 hK hn hi a w hr => wp_block (wp_mono (h F φ0 w0 h0 hK hn hi a w hr) fun e a w ⟨ho, st', h1, h2⟩ => by
    cases e with
    | exit id' =>
      simp only [Exit.inBlock]
      simp only [blockV] at h2
      split
      · rename_i e; rw [if_pos e] at h2; exact ⟨rfl, st', h1, h2⟩
      · rename_i e; rw [if_neg e] at h2; exact ⟨rfl, st', h1, h2⟩
    | _ => exact ⟨ho, st', h1, h2⟩)
theorem WPV.scope {x : Code} {Q : Exit → Sv → Prop} {st : Sv} (h : WPV P K n0 x Q st) : WPV P K n0 (.scope x) Q st :=
  fun F φ0 w0 h0 hK hn hi a w hr => wp_scope_straight (wp_mono (h F φ0 w0 h0 hK hn hi a w hr) fun e a w ⟨ho, st', h1, h2⟩ => by
    cases e with
    | goto l => simp [okE] at ho
    | _ => exact ⟨ho, st', h1, h2⟩)
theorem WPV.cond {c : Operand} {x y : Code} {Q : Exit → Sv → Prop} {st : Sv} {t : Bool} (hc : evV st.tm c = some (.sc (.bool t))) (h : WPV P K n0 (if t then x else y) Q st) : WPV P K n0 (.cond c x y) Q st :=
  fun F φ0 w0 h0 hK hn hi a w hr => by
    obtain ⟨φ, he, hiv, ht, hd⟩ := id hr
    exact wp_cond (evV_den ht hc).sc.1 (h F φ0 w0 h0 hK hn hi a w hr)
theorem WPV.loop {x : Code} {Q : Exit → Sv → Prop} {st : Sv} (h : WPV P K n0 x (thenV (WPV P K n0 (.loop x) Q) Q) st) : WPV P K n0 (.loop x) Q st :=
  fun F φ0 w0 h0 hK hn hi a w hr => wp_loop_unroll (fun e a w h => h.1) (wp_mono (h F φ0 w0 h0 hK hn hi a w hr) fun e a w ⟨ho, st', h1, h2⟩ => by
    cases e with
    | normal => exact h2 F φ0 w0 h0 hK hn hi a w h1
    | _ => exact ⟨ho, st', h1, h2⟩)
def yieldedV (ops : Array Oper) (tm : List V) (j : Nat) : Option (Option Bool) := match (ops[j]?).bind (·.dst) with
  | some t => match tm[t]? with
    | some (.d (.sc (.bool b))) => some (some b)
    | some (.tup []) => some none
    | _ => none
  | none => some none
def wantedV (ops : Array Oper) (tm : List V) (o : Oper) : Option Bool := match o.guard with
  | none => some true
  | some (j, want) => (yieldedV ops tm j).map fun y => y == some want
theorem wantedV_den {φ : List Pl} {w : World} {a : Act} {tm : List V} (ht : RelT F φ w a.tmps tm) {ops : Array Oper} {o : Oper} {b : Bool} (h : wantedV ops tm o = some b) : Region.wanted o (yielded ops a.tmps) = b := by
  unfold wantedV at h
  unfold Region.wanted
  split at h
  · rename_i hg; cases h; rw [hg]
  · rename_i j want hg
    obtain ⟨y, hy, rfl⟩ := Option.map_eq_some_iff.1 h
    rw [hg]
    simp only []
    congr 1
    unfold yieldedV at hy
    unfold yielded
    split at hy
    · rename_i t hd
      rw [hd]
      simp only [Option.bind_some]
      have hs : ∀ v, tm[t]? = some v → ∃ r, a.tmps[t]? = some r ∧ Den F φ w r v := fun v hv => by
        obtain ⟨r, hr⟩ := ofLt (xs := a.tmps) (i := t) (by rw [ht.1]; exact get_lt hv)
        exact ⟨r, hr, ht.2 t r v hr hv⟩
      split at hy
      · rename_i b hv; cases hy
        obtain ⟨r, hr, hd⟩ := hs _ hv
        rw [hr, hd.sc.1]
      · rename_i hv; cases hy
        obtain ⟨r, hr, hd⟩ := hs _ hv
        obtain ⟨rs, rfl, _⟩ := hd.tupInv
        rw [hr]
      · cases hy
    · rename_i hd; cases hy; rw [hd]; rfl
theorem RelT.put {φ : List Pl} {w : World} {a : Act} {tm : List V} (ht : RelT F φ w a.tmps tm) {d : Option Tmp} {r : Value} {v : V} (hd : Den F φ w r v) : RelT F φ w (a.put d r).tmps (putV tm d v) := by
  cases d with
  | none => exact ht
  | some d =>
    refine ⟨by simp [Act.put, putV, ht.1], fun t x y hx hy => ?_⟩
    simp only [Act.put, putV] at hx hy
    rw [Array.getElem?_setIfInBounds] at hx
    rcases get_set hy with ⟨rfl, rfl, _⟩ | ⟨hne, hy⟩
    · rw [if_pos rfl] at hx
      split at hx
      · cases hx; exact hd
      · cases hx
    · rw [if_neg (fun e => hne e.symm)] at hx
      exact ht.2 t x y hx hy
theorem RelT.ext {φ φ' : List Pl} {w w' : World} (he : Ext φ w φ' w') {tmps : Array Value} {tm : List V} (ht : RelT F φ w tmps tm) : RelT F φ' w' tmps tm :=
  ⟨ht.1, fun t r v h1 h2 => (ht.2 t r v h1 h2).ext he⟩
def Wk (vs vs' : List V) : Prop := ∀ (F : Fr) (φ : List Pl) (w : World) (rs : List Value), DenL F φ w rs vs → DenL F φ w rs vs'
theorem Wk.refl {vs : List V} : Wk vs vs := fun _ _ _ _ h => h
theorem Wk.nil : Wk [] [] := fun _ _ _ _ h => h
theorem Wk.same {v : V} {vs vs' : List V} (h : Wk vs vs') : Wk (v :: vs) (v :: vs') := fun F φ w rs hd => by
  cases hd with
  | cons h1 h2 => exact .cons h1 (h F φ w _ h2)
theorem Wk.own {k t : Nat} {es : List (List D)} {vs vs' : List V} (h : Wk vs vs') : Wk (.own k es t :: vs) (.sl k es :: vs') := fun F φ w rs hd => by
  cases hd with
  | cons h1 h2 => exact .cons (.d (esOf_den (k := k) (v := .own k es t) (by simp [esOf]) h1)) (h F φ w _ h2)
theorem Wk.full {k : Nat} {es : List (List D)} {vs vs' : List V} (h : Wk vs vs') : Wk (.full k es :: vs) (.sl k es :: vs') := fun F φ w rs hd => by
  cases hd with
  | cons h1 h2 => exact .cons (.d (esOf_den (k := k) (v := .full k es) (by simp [esOf]) h1)) (h F φ w _ h2)
theorem Wk.null {k : Nat} {vs vs' : List V} (h : Wk vs vs') : Wk (.sc (.slice none 0 0) :: vs) (.sl k [] :: vs') := fun F φ w rs hd => by
  cases hd with
  | cons h1 h2 => exact .cons (by rw [h1.sc.1]; exact .d .nil) (h F φ w _ h2)
theorem Sp.wk {f : FuncId} {vs vs' : List V} {h : List Ho} {R : V → List Ho → Prop} (hs : Sp P K f vs' h R) (hw : Wk vs vs') : Sp P K f vs h R :=
  fun F φ w args hK hi hd => hs F φ w args hK hi (hw F φ w _ hd)
def CallV (P : Program) (K : Nat → Obj → Prop) (f : FuncId) (vs : List V) (st : Sv) (dst : Option Tmp) (N : Sv → Prop) : Prop :=
  Enters P f ∧ Sp P K f vs st.h fun v h' => N ⟨putV st.tm dst v, h'⟩
theorem CallV.to {f : FuncId} {vs : List V} {st : Sv} {dst : Option Tmp} {N : Sv → Prop} {v : V} (he : Enters P f) (hs : Sp P K f vs st.h fun u hh => u = v ∧ hh = st.h) (hr : N ⟨putV st.tm dst v, st.h⟩) : CallV P K f vs st dst N :=
  ⟨he, hs.mono fun u hh ⟨e1, e2⟩ => by rw [e1, e2]; exact hr⟩
theorem CallV.mk {f : FuncId} {vs : List V} {st : Sv} {dst : Option Tmp} {N : Sv → Prop} {R : V → List Ho → Prop} (he : Enters P f) (hs : Sp P K f vs st.h R) (hr : ∀ u hh, R u hh → N ⟨putV st.tm dst u, hh⟩) : CallV P K f vs st dst N :=
  ⟨he, hs.mono hr⟩
def resV (P : Program) (K : Nat → Obj → Prop) (st : Sv) (dst : Option Tmp) (Q : Sv → Prop) : Res → Prop
  | .val v h' => Q ⟨putV st.tm dst v, trimY h'⟩
  | .call f vs => CallV P K f vs st dst Q
  | .no => False
def opsV (P : Program) (M : Oper → TypeId → Bool) (K : Nat → Obj → Prop) (ops : Array Oper) (Q : Sv → Prop) : List Oper → Sv → Prop
  | [], st => Q st
  | o :: l, st => brO (wantedV ops st.tm o) (resV P K st o.dst (opsV P M K ops Q l) (opV P (M o) st.tm (st.h ++ [.yet]) st.h.length o)) (opsV P M K ops Q l ⟨putV st.tm o.dst .undef, st.h⟩)
def CallO (P : Program) (M : Oper → TypeId → Bool) (K : Nat → Obj → Prop) (ops : Array Oper) (N : Sv → Prop) (l : List Oper) (f : FuncId) (vs : List V) (st : Sv) (dst : Option Tmp) : Prop :=
  CallV P K f vs st dst (opsV P M K ops N l)
def resO (P : Program) (M : Oper → TypeId → Bool) (K : Nat → Obj → Prop) (ops : Array Oper) (N : Sv → Prop) (l : List Oper) (st : Sv) (dst : Option Tmp) (r : Res) : Prop :=
  resV P K st dst (opsV P M K ops N l) r
section
variable {ops : Array Oper} {N : Sv → Prop} {l : List Oper} {st : Sv} {dst : Option Tmp} {o : Oper} {v : V} {h : List Ho} {f : FuncId} {vs : List V}
theorem opsV.here (h : opsV P M K ops N l st) : opsV P M K ops N l st := h
theorem resO.here {r : Res} (h : resO P M K ops N l st dst r) : resO P M K ops N l st dst r := h
theorem brO.here {b : Option Bool} {A B : Prop} (h : brO b A B) : brO b A B := h
theorem opsV_nil : opsV P M K ops N [] st = N st := rfl
def guardO (P : Program) (M : Oper → TypeId → Bool) (K : Nat → Obj → Prop) (ops : Array Oper) (N : Sv → Prop) (l : List Oper) (o : Oper) (st : Sv) (b : Option Bool) : Prop :=
  brO b (resO P M K ops N l st o.dst (opV P (M o) st.tm (st.h ++ [.yet]) st.h.length o)) (opsV P M K ops N l ⟨putV st.tm o.dst .undef, st.h⟩)
theorem opsV_cons : opsV P M K ops N (o :: l) st = guardO P M K ops N l o st (wantedV ops st.tm o) := rfl
theorem guardO_true : guardO P M K ops N l o st (some true) = resO P M K ops N l st o.dst (opV P (M o) st.tm (st.h ++ [.yet]) st.h.length o) := Br_true
theorem guardO_false : guardO P M K ops N l o st (some false) = opsV P M K ops N l ⟨putV st.tm o.dst .undef, st.h⟩ := Br_false
theorem guardO.mk {b : Bool} (h1 : b = true → resO P M K ops N l st o.dst (opV P (M o) st.tm (st.h ++ [.yet]) st.h.length o)) (h2 : b = false → opsV P M K ops N l ⟨putV st.tm o.dst .undef, st.h⟩) : guardO P M K ops N l o st (some b) := ⟨h1, h2⟩
theorem resO_val : resO P M K ops N l st dst (.val v h) = opsV P M K ops N l ⟨putV st.tm dst v, trimY h⟩ := rfl
theorem resO_call : resO P M K ops N l st dst (.call f vs) = CallO P M K ops N l f vs st dst := rfl
theorem resO_no : resO P M K ops N l st dst .no = False := rfl
theorem CallO.to {vs' : List V} (he : Enters P f) (hs : Sp P K f vs' st.h fun u hh => u = v ∧ hh = st.h) (hw : Wk vs vs') (hr : opsV P M K ops N l ⟨putV st.tm dst v, st.h⟩) : CallO P M K ops N l f vs st dst := CallV.to he (hs.wk hw) hr
end
theorem put_defers (a : Act) (d : Option Tmp) (v : Value) : (a.put d v).defers = a.defers := by cases d <;> rfl
theorem opsV_sound {ops : Array Oper} {Q : Exit → Sv → Prop} (F : Fr) (φ0 : List Pl) (w0 : World) (h0 : List Ho) (hK : F.known = K) (hi0 : Inv F φ0 w0 h0) : ∀ (l : List Oper) (st : Sv) (a : Act) (w : World),
    opsV P M K ops (Q .normal) l st → RelA F φ0 w0 st a w → wpList P ops (fun e a' w' => okE e = true ∧ ∃ st', RelA F φ0 w0 st' a' w' ∧ Q e st') l a w
  | [], st, a, w, h, hr => ⟨rfl, st, hr, h⟩
  | o :: l, st, a, w, h, hr => by
    obtain ⟨φ, he, hi, ht, hdf⟩ := hr
    unfold opsV brO at h
    split at h
    case h_2 => exact h.elim
    rename_i b hw
    obtain ⟨hA, hB⟩ := h
    cases b with
    | true =>
      have h := hA rfl
      clear hA hB
      unfold wpList
      rw [if_pos (wantedV_den ht hw)]
      refine .inl ?_
      have next : ∀ {φ' : List Pl} {w' : World} {h' : List Ho} {u : Value} {v : V}, Ext φ w φ' w' → Inv F φ' w' h' → Den F φ' w' u v → opsV P M K ops (Q .normal) l ⟨putV st.tm o.dst v, h'⟩ →
          wpList P ops (fun e a' w' => okE e = true ∧ ∃ st', RelA F φ0 w0 st' a' w' ∧ Q e st') l (a.put o.dst u) w' := fun he' hi' hd hq =>
        opsV_sound F φ0 w0 h0 hK hi0 l _ _ _ hq ⟨_, he.trans hi0 he', hi', (ht.ext he').put hd, by rw [put_defers]; exact hdf⟩
      unfold Oper.wp
      have hi1 := hi.reserve
      have he1 := Ext.reserve φ w
      have ht1 := ht.ext he1
      have hn1 : (φ ++ [Pl.yet])[st.h.length]? = some .yet := by rw [← hi.len]; simp
      cases hres : opV P (M o) st.tm (st.h ++ [.yet]) st.h.length o with
      | val v h' =>
        rw [hres] at h
        have hg := opV_val hi1 hn1 ht1 hres
        have nxt : ∀ {φ' : List Pl} {w' : World} {u : Value}, Ext (φ ++ [.yet]) w φ' w' → Inv F φ' w' h' → Den F φ' w' u v →
            wpList P ops (fun e a' w' => okE e = true ∧ ∃ st', RelA F φ0 w0 st' a' w' ∧ Q e st') l (a.put o.dst u) w' := fun e1 i1 d1 => by
          have e2 := he1.trans hi e1
          have hl := e1.len
          simp only [List.length_append, List.length_cons, List.length_nil] at hl
          obtain ⟨φ2, h1, h2, h3⟩ := trim_all e2 (by omega) i1
          exact next h1 h2 (h3 d1) h
        cases hrun : (execOp a.eval o).run P w with
        | halt x w' => rw [hrun] at hg; exact hg.elim
        | ok n w' =>
          rw [hrun] at hg
          cases n <;> simp only [Gd] at hg
          · obtain ⟨φ', h1, h2, h3⟩ := hg
            exact nxt h1 h2 h3
          · obtain ⟨rfl, φ', h1, h2⟩ := hg
            exact nxt h1 h2 den_undef
          · refine Calls.mono hg ?_
            rintro e w'' ⟨u, φ', rfl, h1, h2, h3⟩
            exact nxt h1 h2 h3
      | call f vs =>
        rw [hres] at h
        obtain ⟨hen, hsp⟩ := h
        obtain ⟨args, hrun, hd⟩ := opV_call ht hres hen
        rw [hrun]
        refine (hsp F φ w args hK hi hd).mono ?_
        rintro e w' ⟨u, φ', v, h', rfl, h1, h2, h3, h4⟩
        exact next h1 h2 h3 h4
      | no => rw [hres] at h; exact h.elim
    | false =>
      have h := hB rfl
      unfold wpList
      rw [if_neg (by rw [wantedV_den ht hw]; simp)]
      exact opsV_sound F φ0 w0 h0 hK hi0 l _ _ _ h ⟨φ, he, hi, ht.put den_undef, by rw [put_defers]; exact hdf⟩
theorem WPV.region {id : Nat} {ops : Array Oper} {Q : Exit → Sv → Prop} {st : Sv} (h : opsV P M K ops (Q .normal) ops.toList st) : WPV P K n0 (.region id ops false) Q st :=
  fun F φ0 w0 h0 hK hn hi a w hr => wp_region_list (opsV_sound F φ0 w0 h0 hK hi _ st a w h hr)
theorem wr_i64 {n : Int} (h : -9223372036854775808 ≤ n) (h' : n < 9223372036854775808) : IntKind.i64.wrap n = n := by
  rw [IntKind.wrap_i64]; omega
theorem wr_u64 {n : Int} (h : 0 ≤ n) (h' : n < 18446744073709551616) : IntKind.u64.wrap n = n := by
  simp [IntKind.wrap, IntKind.bits, IntKind.signed]
  omega
theorem wr_u32 {n : Int} (h : 0 ≤ n) (h' : n < 4294967296) : IntKind.u32.wrap n = n := by
  simp [IntKind.wrap, IntKind.bits, IntKind.signed]
  omega
theorem wr_u8 {n : Int} (h : 0 ≤ n) (h' : n < 256) : IntKind.u8.wrap n = n := by
  simp [IntKind.wrap, IntKind.bits, IntKind.signed]
  omega
theorem WPV.seqK {x y : Code} {Q : Exit → Sv → Prop} {st : Sv} (h : ∀ N : Sv → Prop, (∀ st, WPV P K n0 y Q st → N st) → WPV P K n0 x (thenV N Q) st) : WPV P K n0 (.seq x y) Q st :=
  .seq (h _ fun _ h => h)
structure Both (A B : Prop) : Prop where
  l : A
  r : B
def condV (o : Option V) (A B : Prop) : Prop := match o with
  | some (.d (.sc (.bool b))) => Br b A B
  | some .ub => Both A B
  | _ => False
theorem condV.here {o : Option V} {A B : Prop} (h : condV o A B) : condV o A B := h
theorem condV_bool {b : Bool} {A B : Prop} : condV (some (.d (.sc (.bool b)))) A B = Br b A B := rfl
theorem condV_ub {A B : Prop} : condV (some .ub) A B = Both A B := rfl
theorem WPV.condU {c : Operand} {x y : Code} {Q : Exit → Sv → Prop} {st : Sv} (hc : evV st.tm c = some .ub) (h : WPV P K n0 x Q st) (h' : WPV P K n0 y Q st) : WPV P K n0 (.cond c x y) Q st :=
  fun F φ0 w0 h0 hK hn hi a w hr => by
    obtain ⟨φ, he, hiv, ht, hd⟩ := id hr
    have hden := evV_den ht hc
    generalize hv : a.eval c = v at hden
    cases hden with
    | @ub b =>
      refine wp_cond hv ?_
      cases b
      · exact h' F φ0 w0 h0 hK hn hi a w hr
      · exact h F φ0 w0 h0 hK hn hi a w hr
theorem WPV.condK {c : Operand} {x y : Code} {Q : Exit → Sv → Prop} {st : Sv} (h : ∀ A : Prop, (WPV P K n0 x Q st → A) → ∀ B : Prop, (WPV P K n0 y Q st → B) → condV (evV st.tm c) A B) : WPV P K n0 (.cond c x y) Q st := by
  have h := h _ (fun h => h) _ (fun h => h)
  unfold condV at h
  split at h
  · rename_i t hc
    obtain ⟨h1, h2⟩ := h
    refine .cond hc ?_
    cases t
    · exact h2 rfl
    · exact h1 rfl
  · rename_i hc
    exact .condU hc h.l h.r
  · exact h.elim
theorem WPV.regionK {id : Nat} {ops : Array Oper} {Q : Exit → Sv → Prop} {st : Sv} (h : ∀ N : Sv → Prop, (∀ st, Q .normal st → N st) → opsV P M K ops N ops.toList st) : WPV P K n0 (.region id ops false) Q st :=
  .region (h _ fun _ h => h)
def resultsV (P : Program) (tm : List V) (h : List Ho) : List ResultVar → Option (List V)
  | [] => some []
  | .tmp t :: r => match tm[t]?, resultsV P tm h r with
    | some v, some vs => some (v :: vs)
    | _, _ => none
  | .cell a t :: r => match (tm[a]?), knownT P t, resultsV P tm h r with
    | some p, true, some vs => match loadV P h t p with
      | some v => some (v :: vs)
      | none => none
    | _, _, _ => none
def resultV (P : Program) (st : Sv) (rs : List ResultVar) : Option V := match resultsV P st.tm st.h rs with
  | some [v] => some v
  | some vs => some (.tup vs)
  | none => none
theorem resultsV_run {φ : List Pl} {w : World} {tmps : Array Value} {tm : List V} {h : List Ho} (hi : Inv F φ w h) (ht : RelT F φ w tmps tm) (f : ResultVar → Sem Value)
    (hf1 : ∀ t, f (.tmp t) = pure (tmps.getD t undef)) (hf2 : ∀ a t, f (.cell a t) = do loadVar t (← asAddr (tmps.getD a undef))) : ∀ (rs : List ResultVar) (vs : List V), resultsV P tm h rs = some vs →
    ∃ us : List Value, (rs.mapM f).run P w = .ok us w ∧ DenL F φ w us vs
  | [], vs, h => by simp only [resultsV] at h; cases h; exact ⟨[], by simp, .nil⟩
  | .tmp t :: r, vs, h => by
    unfold resultsV at h
    split at h
    · rename_i v vs' h1 h2
      cases h
      obtain ⟨us, hu, hd⟩ := resultsV_run hi ht f hf1 hf2 r _ h2
      have hlt : t < tmps.size := by rw [ht.1]; exact get_lt h1
      have e : tmps.getD t undef = tmps[t] := by simp [Array.getD, hlt]
      refine ⟨tmps[t] :: us, ?_, .cons (ht.2 t _ v (Array.getElem?_eq_getElem hlt) h1) hd⟩
      simp only [List.mapM_cons, hf1, Sem.run_bind, Sem.run_pure, Result.andThen_ok, hu, e]
    · cases h
  | .cell a t :: r, vs, h => by
    unfold resultsV at h
    split at h
    · rename_i p vs' h1 hk h2
      split at h
      · rename_i v hl
        cases h
        obtain ⟨us, hu, hd⟩ := resultsV_run hi ht f hf1 hf2 r _ h2
        have hlt : a < tmps.size := by rw [ht.1]; exact get_lt h1
        have e : tmps.getD a undef = tmps[a] := by simp [Array.getD, hlt]
        have hden := ht.2 a _ p (Array.getElem?_eq_getElem hlt) h1
        obtain ⟨d, hdt⟩ := Option.isSome_iff_exists.1 hk
        obtain ⟨u, hr, hdu⟩ := loadV_run (P := P) hi hl hdt hden
        have hptr : ∃ ad, tmps[a] = .pointer (some ad) := by
          cases p <;> simp only [loadV, reduceCtorEq] at hl
          · obtain ⟨b, hb, _⟩ := hden.ptrInv; exact ⟨_, hb⟩
          · obtain ⟨b, at_, f, hb, _⟩ := hden.epInv; exact ⟨_, hb⟩
        obtain ⟨ad, had⟩ := hptr
        rw [had] at hr e
        simp only [Instr.loadAt, Instr.sureAddr, Sem.run_bind, Sem.run_pure, Result.andThen_ok] at hr
        refine ⟨u :: us, ?_, .cons hdu hd⟩
        have hasa : (asAddr (.pointer (some ad))).run P w = .ok ad w := rfl
        simp only [List.mapM_cons, hf2, Sem.run_bind, Sem.run_pure, Result.andThen_ok, hu, e, hasa, hr]
      · cases h
    · cases h
theorem Sp.of_body {f : FuncId} {fn : Func} {c : Code} {vs : List V} {h : List Ho} {R : V → List Ho → Prop} (hf : P.funcs[f]? = some fn) (hb : fn.body = some c)
    (hw : ∀ Q : Exit → Sv → Prop, (∀ st v, resultV P st fn.results.toList = some v → R v st.h → Q .normal st ∧ Q .ret st) → WPV P K h.length c Q ⟨vs ++ List.replicate (fn.ntmps - vs.length) .undef, h⟩) : Sp P K f vs h R := by
  intro F φ w args hK hi hd
  refine calls_of_wp hf hb ?_
  have hl := hd.length
  rw [Array.length_toList] at hl
  have hrel : RelA F φ w ⟨vs ++ List.replicate (fn.ntmps - vs.length) .undef, h⟩ { tmps := args ++ Array.replicate (fn.ntmps - args.size) undef, defers := [] } w := by
    refine ⟨φ, .refl φ w, hi, ⟨by simp [hl], fun t r v hr hv => ?_⟩, rfl⟩
    by_cases ht : t < args.size
    · rw [Array.getElem?_append_left ht] at hr
      rw [List.getElem?_append_left (by omega)] at hv
      exact hd.get t r v (by simpa using hr) hv
    · rw [Array.getElem?_append_right (by omega), Array.getElem?_replicate] at hr
      rw [List.getElem?_append_right (by omega), List.getElem?_replicate] at hv
      split at hr
      · split at hv
        · cases hr; cases hv; exact den_undef
        · cases hv
      · cases hr
  refine wp_mono (hw (fun e st => (e = .normal ∨ e = .ret) ∧ ∃ v, resultV P st fn.results.toList = some v ∧ R v st.h) (fun st v h1 h2 => ⟨⟨.inl rfl, v, h1, h2⟩, .inr rfl, v, h1, h2⟩) F φ w h hK rfl hi _ w hrel) ?_
  rintro e a' w' ⟨hok, st', ⟨φ', he, hi', ht, hdf⟩, hee, v, hv, hR⟩
  have fin : a'.defers = [] ∧ ∃ u, (results fn a'.tmps).run P w' = .ok u w' ∧ ∃ u' φ' v h', Ending.returned u = .returned u' ∧ Ext φ w φ' w' ∧ Inv F φ' w' h' ∧ Den F φ' w' u' v ∧ R v h' := by
    refine ⟨hdf, ?_⟩
    unfold resultV at hv
    have key : ∀ us0, resultsV P st'.tm st'.h fn.results.toList = some us0 → ∃ us : List Value, (results fn a'.tmps).run P w' = .ok (if h : us.length = 1 then us[0] else .tuple us.toArray) w' ∧ DenL F φ' w' us us0 := fun us0 h0 => by
      obtain ⟨us, hu, hd⟩ := resultsV_run (P := P) hi' ht (results.match_1 (fun _ => Sem Value) · (fun t => pure (a'.tmps.getD t undef)) (fun a t => do loadVar t (← asAddr (a'.tmps.getD a undef)))) (fun _ => rfl) (fun _ _ => rfl) _ _ h0
      refine ⟨us, ?_, hd⟩
      unfold results
      rw [Array.mapM_eq_mapM_toList]
      simp only [Sem.run_bind, Sem.run_map]
      rw [hu]
      simp
    split at hv
    · rename_i v0 h0
      cases hv
      obtain ⟨us, hu, hd⟩ := key _ h0
      cases hd with
      | cons hd hds =>
        cases hds
        exact ⟨_, hu, _, φ', v, st'.h, rfl, he, hi', by simpa using hd, hR⟩
    · rename_i vs0 hne h0
      cases hv
      obtain ⟨us, hu, hd⟩ := key _ h0
      have hl1 : us.length ≠ 1 := fun e => by
        have := hd.length
        rw [e] at this
        cases vs0 with
        | nil => simp at this
        | cons x xs =>
          cases xs with
          | nil => exact hne x rfl
          | cons y ys => simp at this
      refine ⟨_, hu, _, φ', .tup vs0, st'.h, rfl, he, hi', ?_, hR⟩
      rw [dif_neg hl1]
      exact .tup (by simpa using hd.length) fun i r v hr hv => hd.get i r v (by simpa using hr) hv
    · cases hv
  rcases hee with rfl | rfl <;> exact fin
end
end Go.Proofs.YtgfnpcmehnjopaaGreatDoor
