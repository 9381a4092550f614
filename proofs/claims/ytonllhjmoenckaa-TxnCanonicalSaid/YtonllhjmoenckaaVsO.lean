/- Objects that are no more, and their numbers, are dropped; loops. No program stands here. -/
import Derived.Test.YtonllhjmoenckaaVsL
namespace Go.Proofs.Ytonllhjmoenckaa
section
open Go Go.RowKit
set_option linter.unusedVariables false
set_option linter.unusedSimpArgs false
variable {F : Fr} {P : Program} {M : Oper → TypeId → Bool} {K : Nat → Obj → Prop} {n0 : Nat}

/-- The objects are numbered anew: number i for what had number ρ i; those that the function was given keep theirs. -/
theorem WPV.compact {c : Code} {Q : Exit → Sv → Prop} {tm tm' : List V} {h h' : List Ho} (ρ : List Nat) (hn : ρ.Nodup) (hpre : ∀ i, i < n0 → ρ[i]? = some i) (hlen : ρ.length = h'.length)
    (hpick : ∀ (B i j : Nat) (o : Ho), ρ[i]? = some j → h'[i]? = some o → h[j]? = some (renO (gB ρ B) o)) (hb : ∀ j ∈ ρ, j < h.length) (htm : ∀ B, tm = tm'.map (renV (gB ρ B)))
    (hw : WPV P K n0 c Q ⟨tm', h'⟩) : WPV P K n0 c Q ⟨tm, h⟩ := by
  intro F φ0 w0 h0 hK hn0 hi0 a w hr
  obtain ⟨φ, he, hi, ht, hdf⟩ := hr
  have hφ : ∀ j ∈ ρ, j < φ.length := fun j hj => by rw [hi.len]; exact hb j hj
  let φl : List Pl := ρ.map fun j => (φ[j]?).getD .dead
  have hφl : ∀ i : Nat, φl[i]? = (ρ[i]?).bind fun j => φ[j]? := fun i => by
    simp only [φl, List.getElem?_map]
    cases hr : ρ[i]? with
    | none => rfl
    | some j =>
      obtain ⟨p, hp⟩ := ofLtL (hφ j (List.mem_of_getElem? hr))
      simp [hp]
  have hlφ : φl.length = ρ.length := by simp [φl]
  have old : ∀ (i : Nat) (p : Pl), φl[i]? = some p → ∃ j, ρ[i]? = some j ∧ φ[j]? = some p := fun i p hp => by
    rw [hφl] at hp
    cases hr : ρ[i]? with
    | none => rw [hr] at hp; cases hp
    | some j => rw [hr] at hp; exact ⟨j, rfl, hp⟩
  have pdown : ∀ b o, prot F φ w b o → prot F φl w b o := fun b o ⟨h1, h2, h3, h4⟩ =>
    ⟨h1, fun i hi' => by obtain ⟨j, _, hj⟩ := old i _ hi'; exact h2 j hj, fun i e hi' => by obtain ⟨j, _, hj⟩ := old i _ hi'; exact h3 j e hj, h4⟩
  have gdown : ∀ i, lv φ (gB ρ φ.length i) → lv φl i ∧ φl[i]? = φ[gB ρ φ.length i]? := fun i ⟨p, hp, hne⟩ => by
    unfold gB at hp ⊢
    cases hr : ρ[i]? with
    | none => rw [hr] at hp; have := get_lt hp; simp only [Option.getD_none] at this; omega
    | some j =>
      rw [hr] at hp
      simp only [Option.getD_some] at hp ⊢
      have e : φl[i]? = φ[j]? := by rw [hφl, hr]; rfl
      exact ⟨⟨p, by rw [e]; exact hp, hne⟩, e⟩
  have h0l : φ0.length = n0 := by rw [hi0.len, hn0]
  have hle : n0 ≤ ρ.length := by
    cases n0 with
    | zero => exact Nat.zero_le _
    | succ n => exact get_lt (hpre n (by omega))
  refine hw F φ0 w0 h0 hK hn0 hi0 a w ⟨φl, ?_, ?_, ?_, hdf⟩
  · refine ⟨he.size, by rw [hlφ]; omega, fun i hx => ?_, he.keep, he.tail, fun i b hp hlt => ?_, fun i b e' hp hlt => ?_, he.io⟩
    · have hlt : i < n0 := by
        obtain ⟨p, hp, _⟩ := hx
        have := get_lt hp; omega
      rw [hφl, hpre i hlt]
      exact he.old i hx
    · obtain ⟨j, _, hj⟩ := old i _ hp
      exact he.objs j b hj hlt
    · obtain ⟨j, _, hj⟩ := old i _ hp
      exact he.tails j b e' hj hlt
  · refine ⟨by rw [hlφ]; exact hlen, fun i p o hp ho => ?_, fun i j p q b hp hq hb1 hb2 => ?_, hi.frB, fun i p b o hp hb1 hF => ?_, fun b x hx => ?_⟩
    · obtain ⟨j, hr, hj⟩ := old i p hp
      have hok := hi.ok j p _ hj (hpick φ.length i j o hr ho)
      cases p <;> cases o <;> simp only [ObOk, renO] at hok ⊢
      · obtain ⟨arr, hr, hz, hl, hd⟩ := hok
        refine ⟨arr, hr, hz, by rw [renL_len] at hl; exact hl, fun k v hv => ?_⟩
        obtain ⟨u, h1, h2, h3⟩ := hd k _ (by rw [renL_get, hv]; rfl)
        exact ⟨u, h1, h2, h3.down pdown gdown v rfl⟩
      · obtain ⟨ents, clock, hr, hl, hd⟩ := hok
        refine ⟨ents, clock, hr, by simpa [GM.mapV] using hl, fun k m e hm he => ?_⟩
        obtain ⟨h1, h2⟩ := hd k m ⟨e.born, e.key, renV _ e.val⟩ hm (by simp only [GM.mapV, List.getElem?_map, he]; rfl)
        exact ⟨h1, h2.down pdown gdown _ rfl⟩
      · exact hok
      · rename_i cs; cases cs with
        | nil => rfl
        | cons a l => simp [renL] at hok
    · obtain ⟨i', hr, hj⟩ := old i p hp
      obtain ⟨j', hr', hj'⟩ := old j q hq
      have := hi.apart i' j' p q b hj hj' hb1 hb2
      subst this
      exact (List.getElem?_inj (get_lt hr) hn).1 (by rw [hr, hr'])
    · obtain ⟨i', hr, hi'⟩ := old i p hp
      exact hi.frO i' p b o hi' hb1 hF
    · obtain ⟨h1, h2⟩ := hi.frK b x hx
      exact ⟨h1, fun i p hp => by obtain ⟨j, _, hj⟩ := old i p hp; exact h2 j p hj⟩
  · have e := htm φ.length
    refine ⟨by rw [ht.1, e]; simp, fun t r v hr hv => ?_⟩
    exact (ht.2 t r _ hr (by rw [e, List.getElem?_map, hv]; rfl)).down pdown gdown v rfl

theorem loopV {x : Code} {Q : Exit → Sv → Prop} {st : Sv} (h : WPV P K n0 x (thenV (WPV P K n0 (.loop x) Q) Q) st) : WPV P K n0 (.loop x) Q st := .loop h
/-- A loop whose state is told by a number that goes up to n, and by what stands in other slots. -/
theorem WPV.loopF {x : Code} {Q : Exit → Sv → Prop} (n : Nat) (I : Nat → (Nat → V) → Sv)
    (h : ∀ k e, k ≤ n → (∀ e', k < n → WPV P K n0 (.loop x) Q (I (k + 1) e')) → WPV P K n0 (.loop x) Q (I k e)) (k : Nat) (e : Nat → V) (hk : k ≤ n) : WPV P K n0 (.loop x) Q (I k e) := by
  have : ∀ d k e, k ≤ n → n - k = d → WPV P K n0 (.loop x) Q (I k e) := fun d => by
    induction d with
    | zero => exact fun k e hk hd => h k e hk fun e' hlt => absurd hlt (by omega)
    | succ d ih => exact fun k e hk hd => h k e hk fun e' hlt => ih (k + 1) e' hlt (by omega)
  exact this _ k e hk rfl
end

section
section
open Go Go.RowKit
set_option linter.unusedVariables false
set_option linter.unusedSimpArgs false
variable {F : Fr} {P : Program} {M : Oper → TypeId → Bool} {K : Nat → Obj → Prop} {n0 : Nat}

/-- Which slice types' literals, made slices and appends are objects: none; those of a list. -/
def noM : Oper → TypeId → Bool := fun _ _ => false
def inM (l : List TypeId) : Oper → TypeId → Bool := fun _ t => l.any fun x => x == t
theorem noM_eq (o : Oper) (t : TypeId) : noM o t = false := rfl
theorem inM_nil (o : Oper) (t : TypeId) : inM [] o t = false := rfl
theorem inM_cons (x : TypeId) (l : List TypeId) (o : Oper) (t : TypeId) : inM (x :: l) o t = ((x == t) || inM l o t) := by simp [inM]

/-- What state st tells is told by st', too. -/
def Desc (K : Nat → Obj → Prop) (n0 : Nat) (st st' : Sv) : Prop :=
  ∀ (F : Fr) (φ0 : List Pl) (w0 : World) (h0 : List Ho), F.known = K → h0.length = n0 → Inv F φ0 w0 h0 → ∀ a w, RelA F φ0 w0 st a w → RelA F φ0 w0 st' a w
theorem Desc.refl {st : Sv} : Desc K n0 st st := fun _ _ _ _ _ _ _ _ _ h => h
theorem Desc.trans {st st' st'' : Sv} (h : Desc K n0 st st') (h' : Desc K n0 st' st'') : Desc K n0 st st'' := fun F φ0 w0 h0 hK hn hi a w hr => h' F φ0 w0 h0 hK hn hi a w (h F φ0 w0 h0 hK hn hi a w hr)
theorem WPV.desc {c : Code} {Q : Exit → Sv → Prop} {st st' : Sv} (hd : Desc K n0 st st') (h : WPV P K n0 c Q st') : WPV P K n0 c Q st :=
  fun F φ0 w0 h0 hK hn hi a w hr => h F φ0 w0 h0 hK hn hi a w (hd F φ0 w0 h0 hK hn hi a w hr)

/-- A contract, out of a walk through the body, whose last state may be told otherwise. -/
theorem Sp.of_bodyD {f : FuncId} {fn : Func} {c : Code} {vs : List V} {h : List Ho} {R : V → List Ho → Prop} (hf : P.funcs[f]? = some fn) (hb : fn.body = some c)
    (hw : ∀ Q : Exit → Sv → Prop, (∀ st st' v, Desc K h.length st st' → resultV P st' fn.results.toList = some v → R v st'.h → Q .normal st ∧ Q .ret st) → WPV P K h.length c Q ⟨vs ++ List.replicate (fn.ntmps - vs.length) .undef, h⟩) : Sp P K f vs h R := by
  have h0 : Sp P K f vs h R := by
    refine Sp.of_body (R := R) hf hb fun Q hQ => ?_
    intro F φ0 w0 hh hK hn hi a w hr
    have := hw (fun e st => ∀ F φ0 w0 h0, F.known = K → h0.length = h.length → Inv F φ0 w0 h0 → ∀ a w, RelA F φ0 w0 st a w → ∃ st', RelA F φ0 w0 st' a w ∧ Q e st') (fun st st' v hd h1 h2 =>
      ⟨fun F φ0 w0 h0 hK hn hi a w hr => ⟨st', hd F φ0 w0 h0 hK hn hi a w hr, (hQ st' v h1 h2).1⟩, fun F φ0 w0 h0 hK hn hi a w hr => ⟨st', hd F φ0 w0 h0 hK hn hi a w hr, (hQ st' v h1 h2).2⟩⟩) F φ0 w0 hh hK hn hi a w hr
    refine wp_mono this fun e a w ⟨ho, st, h1, h2⟩ => ?_
    obtain ⟨st', h3, h4⟩ := h2 F φ0 w0 hh hK hn hi a w h1
    exact ⟨ho, st', h3, h4⟩
  exact h0

/-! ### Values told less well -/
theorem Wk.any {v : V} {vs vs' : List V} (h : Wk vs vs') : Wk (v :: vs) (.any :: vs') := fun F φ w rs hd => by
  cases hd with
  | cons h1 h2 => exact .cons .any (h F φ w _ h2)
theorem Wk.trans {vs vs' vs'' : List V} (h : Wk vs vs') (h' : Wk vs' vs'') : Wk vs vs'' := fun F φ w rs hd => h' F φ w rs (h F φ w rs hd)
theorem Wk.agg {cs cs' vs vs' : List V} (h0 : Wk cs cs') (h : Wk vs vs') : Wk (.agg cs :: vs) (.agg cs' :: vs') := fun F φ w rs hd => by
  cases hd with
  | cons h1 h2 =>
    obtain ⟨us, rfl, hs, ho, hg⟩ := h1.aggInv
    have := h0 F φ w us.toList (.of_get (by simpa using hs) fun i r v hr hv => hg i r v (by simpa using hr) hv)
    exact .cons (.agg (by simpa using this.length) ho fun i r v hr hv => this.get i r v (by simpa using hr) hv) (h F φ w _ h2)
theorem Wk.tupC {cs cs' vs vs' : List V} (h0 : Wk cs cs') (h : Wk vs vs') : Wk (.tup cs :: vs) (.tup cs' :: vs') := fun F φ w rs hd => by
  cases hd with
  | cons h1 h2 =>
    obtain ⟨us, rfl, hs, hg⟩ := h1.tupInv
    have := h0 F φ w us.toList (.of_get (by simpa using hs) fun i r v hr hv => hg i r v (by simpa using hr) hv)
    exact .cons (.tup (by simpa using this.length) fun i r v hr hv => this.get i r v (by simpa using hr) hv) (h F φ w _ h2)
/-- A row of objects told less well. -/
inductive WkH : List Ho → List Ho → Prop
  | nil : WkH [] []
  | same {o : Ho} {h h' : List Ho} (hs : WkH h h') : WkH (o :: h) (o :: h')
  | cells {cs cs' : List V} {h h' : List Ho} (hc : Wk cs cs') (hs : WkH h h') : WkH (.cells cs :: h) (.cells cs' :: h')
theorem WkH.len {h h' : List Ho} (hw : WkH h h') : h.length = h'.length := by
  induction hw with
  | nil => rfl
  | same _ ih => simp [ih]
  | cells _ _ ih => simp [ih]
theorem Wk.len {cs cs' : List V} (h : Wk cs cs') (F : Fr) (φ : List Pl) (w : World) {rs : List Value} (hd : DenL F φ w rs cs) : cs'.length = cs.length := by
  rw [← hd.length, (h F φ w rs hd).length]
theorem WkH.ok {h h' : List Ho} (hw : WkH h h') : ∀ (i : Nat) (o' : Ho), h'[i]? = some o' → ∃ o, h[i]? = some o ∧ ∀ (F : Fr) (φ : List Pl) (w : World) (p : Pl), ObOk F φ w p o → ObOk F φ w p o' := by
  induction hw with
  | nil => intro i o' h; simp at h
  | @same o _ _ _ ih =>
    intro i o' hi
    cases i with
    | zero => simp at hi; subst hi; exact ⟨_, rfl, fun _ _ _ _ h => h⟩
    | succ i => simpa using ih i o' (by simpa using hi)
  | @cells cs cs' _ _ hc _ ih =>
    intro i o' hi
    cases i with
    | succ i => simpa using ih i o' (by simpa using hi)
    | zero =>
      simp at hi; subst hi
      refine ⟨_, rfl, fun F φ w p h => ?_⟩
      cases p <;> simp only [ObOk] at h ⊢
      · obtain ⟨arr, a, z, b, c⟩ := h
        have hd : DenL F φ w (arr.toList.take cs.length) cs := .of_get (by simp; omega) fun i r v hr hv => by
          obtain ⟨u, h1, _, h3⟩ := c i v hv
          rw [List.getElem?_take, if_pos (get_lt hv), Array.getElem?_toList, h1] at hr
          cases hr; exact h3
        have hd' := hc F φ w _ hd
        have hl := hc.len F φ w hd
        refine ⟨arr, a, z, by omega, fun j v hv => ?_⟩
        obtain ⟨x, hx⟩ := ofLtL (xs := cs) (i := j) (by rw [← hl]; exact get_lt hv)
        obtain ⟨u, h1, h2, _⟩ := c j x hx
        refine ⟨u, h1, h2, hd'.get j u v ?_ hv⟩
        rw [List.getElem?_take, if_pos (get_lt hx), Array.getElem?_toList]; exact h1
      · subst h
        have hl := hc.len F φ w (rs := []) .nil
        exact List.eq_nil_of_length_eq_zero (by simpa using hl)
theorem Desc.weak {tm tm' : List V} {h h' : List Ho} (ht : Wk tm tm') (hh : WkH h h') : Desc K n0 ⟨tm, h⟩ ⟨tm', h'⟩ := by
  intro F φ0 w0 h0 hK hn hi0 a w ⟨φ, he, hi, htm, hdf⟩
  refine ⟨φ, he, ⟨by rw [hi.len]; exact hh.len, fun i p o hp ho => ?_, hi.apart, hi.frB, hi.frO, hi.frK⟩, ?_, hdf⟩
  · obtain ⟨o0, h1, h2⟩ := hh.ok i o ho
    exact h2 F φ w p (hi.ok i p o0 hp h1)
  · have hd : DenL F φ w a.tmps.toList tm := .of_get (by simpa using htm.1) fun i r v hr hv => htm.2 i r v (by simpa using hr) hv
    have := ht F φ w _ hd
    exact ⟨by have := this.length; simpa using this, fun t r v hr hv => this.get t r v (by simpa using hr) hv⟩

/-! ### Objects numbered anew, or dropped -/
mutual
/-- A value with other numbers; what has none is forgotten. -/
def mvV (f : Nat → Option Nat) : V → V
  | .d x => .d x
  | .agg cs => .agg (mvL f cs)
  | .tup cs => .tup (mvL f cs)
  | .own k es t => match f t with
    | some i => .own k es i
    | none => .d (.sl k es)
  | .full k es => .full k es
  | .ptr o off => match f o with
    | some i => .ptr i off
    | none => .any
  | .ep c off => .ep c off
  | .hs g k o off n => match f o with
    | some i => .hs g k i off n
    | none => .any
  | .mp o => match f o with
    | some i => .mp i
    | none => .any
  | .fn g cs => .fn g (mvL f cs)
  | .any => .any
  | .ub => .ub
def mvL (f : Nat → Option Nat) : List V → List V
  | [] => []
  | v :: vs => mvV f v :: mvL f vs
end
theorem mvL_map (f : Nat → Option Nat) : ∀ l : List V, mvL f l = l.map (mvV f)
  | [] => by simp [mvL]
  | v :: vs => by simp [mvL, mvL_map f vs]
theorem mvL_get (f : Nat → Option Nat) (l : List V) (i : Nat) : (mvL f l)[i]? = (l[i]?).map (mvV f) := by rw [mvL_map, List.getElem?_map]
theorem mvL_len (f : Nat → Option Nat) (l : List V) : (mvL f l).length = l.length := by rw [mvL_map, List.length_map]
def mvO (f : Nat → Option Nat) : Ho → Ho
  | .cells cs => .cells (mvL f cs)
  | .map m => .map (m.mapV (mvV f))
  | .tail => .tail
  | .dead => .dead
  | .yet => .yet
theorem Den.mv {F : Fr} {φ φ' : List Pl} {w : World} {f : Nat → Option Nat} (hp : ∀ b o, prot F φ w b o → prot F φ' w b o) (hg : ∀ i j, f i = some j → lv φ i → lv φ' j ∧ φ'[j]? = φ[i]?) {r : Value} {v : V} (hd : Den F φ w r v) :
    Den F φ' w r (mvV f v) := by
  induction hd with
  | d h => exact .d (h.move hp)
  | agg hs h1 _ ih =>
    refine .agg (by rw [hs, mvL_len]) h1 fun i r v hr hv => ?_
    rw [mvL_get] at hv
    obtain ⟨x, hx, rfl⟩ := Option.map_eq_some_iff.1 hv
    exact ih i r x hr hx
  | tup hs _ ih =>
    refine .tup (by rw [hs, mvL_len]) fun i r v hr hv => ?_
    rw [mvL_get] at hv
    obtain ⟨x, hx, rfl⟩ := Option.map_eq_some_iff.1 hv
    exact ih i r x hr hx
  | own ht h hn hpl hf ho =>
    simp only [mvV]
    split
    · rename_i i hi
      obtain ⟨h1, h2⟩ := hg _ _ hi ht
      exact .own h1 (h.move hp) hn (by rw [h2]; exact hpl) (by rw [h2]; exact hf) (by rw [h2]; exact ho)
    · exact .d (h.move hp)
  | ownEx ht hh h hn =>
    simp only [mvV]
    split
    · rename_i i hi
      obtain ⟨h1, h2⟩ := hg _ _ hi ht
      exact .ownEx h1 (by rw [h2]; exact hh) (h.move hp) hn
    · exact .d (h.move hp)
  | full h hn => exact .full (h.move hp) hn
  | ptr ho h =>
    simp only [mvV]
    split
    · rename_i i hi
      obtain ⟨h1, h2⟩ := hg _ _ hi ho
      exact .ptr h1 (by rw [h2]; exact h)
    · exact .any
  | ep c ha hc hd => exact .ep c ha (fun j hj => ⟨hp _ _ (hc j hj).1, (hc j hj).2⟩) fun j x hx => (hd j x hx).move hp
  | hs ho h hcap hf =>
    simp only [mvV]
    split
    · rename_i i hi
      obtain ⟨h1, h2⟩ := hg _ _ hi ho
      exact .hs h1 (by rw [h2]; exact h) hcap (by rw [h2]; exact hf)
    · exact .any
  | hsE ho ha hcap hsp =>
    simp only [mvV]
    split
    · rename_i i hi
      exact .hsE (hg _ _ hi ho).1 ha hcap hsp
    · exact .any
  | hsN ho h =>
    simp only [mvV]
    split
    · rename_i i hi
      obtain ⟨h1, h2⟩ := hg _ _ hi ho
      exact .hsN h1 (by rw [h2]; exact h)
    · exact .any
  | any => exact .any
  | ub => exact .ub
  | mp ho h =>
    simp only [mvV]
    split
    · rename_i i hi
      obtain ⟨h1, h2⟩ := hg _ _ hi ho
      exact .mp h1 (by rw [h2]; exact h)
    · exact .any
  | fn hs _ ih =>
    refine .fn (by rw [hs, mvL_len]) fun i r v hr hv => ?_
    rw [mvL_get] at hv
    obtain ⟨x, hx, rfl⟩ := Option.map_eq_some_iff.1 hv
    exact ih i r x hr hx

/-- The new number of what had number j: σ tells, number by number, which object that was. -/
def posOf : List (Option Nat) → Nat → Nat → Option Nat
  | [], _, _ => none
  | some j' :: l, i, j => if j' = j then some i else posOf l (i + 1) j
  | none :: l, i, j => posOf l (i + 1) j
theorem posOf_get : ∀ (σ : List (Option Nat)) (i j x : Nat), posOf σ i j = some x → i ≤ x ∧ σ[x - i]? = some (some j)
  | [], i, j, x, h => by simp [posOf] at h
  | some j' :: l, i, j, x, h => by
    simp only [posOf] at h
    split at h
    · rename_i e; cases h; subst e; simp
    · obtain ⟨h1, h2⟩ := posOf_get l (i + 1) j x h
      refine ⟨by omega, ?_⟩
      rw [show x - i = (x - (i + 1)) + 1 by omega]; simpa using h2
  | none :: l, i, j, x, h => by
    simp only [posOf] at h
    obtain ⟨h1, h2⟩ := posOf_get l (i + 1) j x h
    refine ⟨by omega, ?_⟩
    rw [show x - i = (x - (i + 1)) + 1 by omega]; simpa using h2
def reH (σ : List (Option Nat)) (h : List Ho) : List Ho := σ.map fun
  | some j => mvO (posOf σ 0) ((h[j]?).getD .dead)
  | none => .dead
/-- May it be numbered so, where n0 objects were given and there are n? -/
def okRe (n0 n : Nat) (σ : List (Option Nat)) : Bool :=
  ((List.range n0).all fun i => σ[i]? == some (some i) || σ[i]? == some none) && decide (σ.filterMap id).Nodup && (σ.filterMap id).all fun j => decide (j < n)

theorem nodup_at : ∀ {σ : List (Option Nat)}, (σ.filterMap id).Nodup → ∀ {i j x : Nat}, σ[i]? = some (some x) → σ[j]? = some (some x) → i = j
  | [], _, i, j, x, h, _ => by simp at h
  | none :: l, hn, i, j, x, h1, h2 => by
    cases i with
    | zero => simp at h1
    | succ i => cases j with
      | zero => simp at h2
      | succ j => exact congrArg (· + 1) (nodup_at (σ := l) (x := x) (by simpa using hn) (by simpa using h1) (by simpa using h2))
  | some y :: l, hn, i, j, x, h1, h2 => by
    have hn' : y ∉ l.filterMap id ∧ (l.filterMap id).Nodup := by simpa using hn
    have hm : ∀ k, l[k]? = some (some y) → False := fun k hk => hn'.1 (List.mem_filterMap.2 ⟨some y, List.mem_of_getElem? hk, rfl⟩)
    cases i with
    | zero =>
      simp at h1; subst h1
      cases j with
      | zero => rfl
      | succ j => exact (hm j (by simpa using h2)).elim
    | succ i => cases j with
      | zero => simp at h2; subst h2; exact (hm i (by simpa using h1)).elim
      | succ j => exact congrArg (· + 1) (nodup_at (x := x) hn'.2 (by simpa using h1) (by simpa using h2))

theorem Desc.re {tm : List V} {h : List Ho} (σ : List (Option Nat)) (hok : okRe n0 h.length σ = true) : Desc K n0 ⟨tm, h⟩ ⟨mvL (posOf σ 0) tm, reH σ h⟩ := by
  intro F φ0 w0 h0 hK hn0 hi0 a w ⟨φ, he, hi, ht, hdf⟩
  simp only [okRe, Bool.and_eq_true, List.all_eq_true, List.mem_range, Bool.or_eq_true, decide_eq_true_eq, beq_iff_eq] at hok
  obtain ⟨⟨hpre, hnd⟩, hlt⟩ := hok
  have hjlt : ∀ i j, σ[i]? = some (some j) → j < h.length := fun i j hij => hlt j (List.mem_filterMap.2 ⟨some j, List.mem_of_getElem? hij, rfl⟩)
  let φl : List Pl := σ.map fun
    | some j => (φ[j]?).getD .dead
    | none => .dead
  have hlφ : φl.length = σ.length := by simp [φl]
  have hφl : ∀ (i j : Nat), σ[i]? = some (some j) → φl[i]? = φ[j]? := fun i j hij => by
    simp only [φl, List.getElem?_map, hij, Option.map_some]
    obtain ⟨p, hp⟩ := ofLtL (xs := φ) (i := j) (by rw [hi.len]; exact hjlt i j hij)
    simp [hp]
  have hφn : ∀ (i : Nat), σ[i]? = some none → φl[i]? = some .dead := fun i hij => by simp only [φl, List.getElem?_map, hij, Option.map_some]
  have old : ∀ (i : Nat) (p : Pl), φl[i]? = some p → p = .dead ∨ ∃ j, σ[i]? = some (some j) ∧ φ[j]? = some p := fun i p hp => by
    obtain ⟨s, hs⟩ := ofLtL (xs := σ) (i := i) (by rw [← hlφ]; exact get_lt hp)
    cases s with
    | none => rw [hφn i hs] at hp; cases hp; exact .inl rfl
    | some j => rw [hφl i j hs] at hp; exact .inr ⟨j, hs, hp⟩
  have oldb : ∀ (i : Nat) (p : Pl) (b : Nat), φl[i]? = some p → p.blk = some b → ∃ j, σ[i]? = some (some j) ∧ φ[j]? = some p := fun i p b hp hb => by
    rcases old i p hp with rfl | h
    · cases hb
    · exact h
  have pdown : ∀ b o, prot F φ w b o → prot F φl w b o := fun b o ⟨h1, h2, h3, h4⟩ =>
    ⟨h1, fun i hi' => by obtain ⟨j, _, hj⟩ := oldb i _ b hi' rfl; exact h2 j hj, fun i e hi' => by obtain ⟨j, _, hj⟩ := oldb i _ b hi' rfl; exact h3 j e hj, h4⟩
  have gmv : ∀ i j, posOf σ 0 i = some j → lv φ i → lv φl j ∧ φl[j]? = φ[i]? := fun i j hij ⟨p, hp, hne⟩ => by
    obtain ⟨_, h2⟩ := posOf_get σ 0 i j hij
    simp only [Nat.sub_zero] at h2
    have e := hφl j i h2
    exact ⟨⟨p, by rw [e]; exact hp, hne⟩, e⟩
  have h0l : φ0.length = n0 := by rw [hi0.len, hn0]
  have hle : n0 ≤ σ.length := by
    cases n0 with
    | zero => exact Nat.zero_le _
    | succ n => rcases hpre n (by omega) with h | h <;> exact get_lt h
  refine ⟨φl, ⟨he.size, by rw [hlφ]; omega, fun i hx => ?_, he.keep, he.tail, fun i b hp hlt => ?_, fun i b e' hp hlt => ?_, he.io⟩, ⟨by rw [hlφ]; simp [reH], fun i p o hp ho => ?_, fun i j p q b hp hq hb1 hb2 => ?_, hi.frB, fun i p b o hp hb1 hF => ?_, fun b x hx => ?_⟩, ?_, hdf⟩
  · have hlt : i < n0 := by
      obtain ⟨p, hp, _⟩ := hx
      have := get_lt hp; omega
    rcases hpre i hlt with h1 | h1
    · rw [hφl i i h1]; exact he.old i hx
    · exact .inr (hφn i h1)
  · obtain ⟨j, _, hj⟩ := oldb i _ b hp rfl
    exact he.objs j b hj hlt
  · obtain ⟨j, _, hj⟩ := oldb i _ b hp rfl
    exact he.tails j b e' hj hlt
  · unfold reH at ho
    rw [List.getElem?_map] at ho
    obtain ⟨s, hs, rfl⟩ := Option.map_eq_some_iff.1 ho
    cases s with
    | none => rw [hφn i hs] at hp; cases hp; trivial
    | some j =>
      rw [hφl i j hs] at hp
      obtain ⟨o, ho'⟩ := ofLtL (xs := h) (i := j) (hjlt i j hs)
      have hok := hi.ok j p o hp ho'
      simp only [ho', Option.getD_some]
      cases p <;> cases o <;> simp only [ObOk, mvO] at hok ⊢
      · obtain ⟨arr, hr, hz, hl, hd⟩ := hok
        refine ⟨arr, hr, hz, by rw [mvL_len]; exact hl, fun k v hv => ?_⟩
        rw [mvL_get] at hv
        obtain ⟨y, hy, rfl⟩ := Option.map_eq_some_iff.1 hv
        obtain ⟨u, h1, h2, h3⟩ := hd k y hy
        exact ⟨u, h1, h2, h3.mv pdown gmv⟩
      · obtain ⟨ents, clock, hr, hl, hd⟩ := hok
        refine ⟨ents, clock, hr, by simpa [GM.mapV] using hl, fun k m e hm he => ?_⟩
        simp only [GM.mapV, List.getElem?_map] at he
        obtain ⟨y, hy, rfl⟩ := Option.map_eq_some_iff.1 he
        obtain ⟨h1, h2⟩ := hd k m y hm hy
        exact ⟨h1, h2.mv pdown gmv⟩
      · exact hok
      · subst hok; rfl
  · obtain ⟨i', hr, hj⟩ := oldb i p b hp hb1
    obtain ⟨j', hr', hj'⟩ := oldb j q b hq hb2
    have := hi.apart i' j' p q b hj hj' hb1 hb2
    subst this
    exact nodup_at hnd hr hr'
  · obtain ⟨i', hr, hi'⟩ := oldb i p b hp hb1
    exact hi.frO i' p b o hi' hb1 hF
  · obtain ⟨h1, h2⟩ := hi.frK b x hx
    exact ⟨h1, fun i p hp hpb => by obtain ⟨j, _, hj⟩ := oldb i p b hp hpb; exact h2 j p hj hpb⟩
  · refine ⟨by rw [ht.1, mvL_len], fun t r v hr hv => ?_⟩
    rw [mvL_get] at hv
    obtain ⟨y, hy, rfl⟩ := Option.map_eq_some_iff.1 hv
    exact (ht.2 t r y hr hy).mv pdown gmv

/-! ### A nil slice in a cell becomes a slice of an object's cells -/
theorem Desc.nilH {tm : List V} {h : List Ho} (i c k : Nat) {cs : List V} (hi0 : h[i]? = some (.cells cs)) (hc : cs[c]? = some (.sc (.slice none 0 0))) : Desc K n0 ⟨tm, h⟩ ⟨tm, (h.set i (.cells (cs.set c (.hs true k h.length 0 0)))) ++ [.cells []]⟩ := by
  intro F φ0 w0 h0 hK hn0 hi0' a w ⟨φ, he, hi, ht, hdf⟩
  have e1 := Ext.reserve φ w
  have i1 := hi.reserve
  have hr : (φ ++ [Pl.yet])[h.length]? = some .yet := by rw [← hi.len]; simp
  obtain ⟨φ', e2, i2, d2⟩ := den_nilH (k := k) i1 hr none
  have e3 := e1.trans hi e2
  have hlen : (h ++ [Ho.yet]).set h.length (.cells []) = h ++ [.cells []] := by
    rw [List.set_append_right _ _ (Nat.le_refl _)]; simp
  rw [hlen] at i2
  have hlt := get_lt hi0
  refine ⟨φ', he.trans hi0' e3, ⟨?_, fun j p o hp ho => ?_, i2.apart, i2.frB, i2.frO, i2.frK⟩, ht.ext e3, hdf⟩
  · rw [i2.len]; simp
  · by_cases hj : j = i
    · subst hj
      rw [List.getElem?_append_left (by simpa using hlt), List.getElem?_set_self hlt] at ho
      cases ho
      have hok := i2.ok j p (.cells cs) hp (by rw [List.getElem?_append_left hlt]; exact hi0)
      cases p <;> simp only [ObOk] at hok ⊢
      · obtain ⟨arr, a1, a2, a3, a4⟩ := hok
        refine ⟨arr, a1, a2, by simpa using a3, fun q v hv => ?_⟩
        rcases get_set hv with ⟨rfl, rfl, _⟩ | ⟨hne, hv⟩
        · obtain ⟨u, h1, h2, h3⟩ := a4 _ _ hc
          exact ⟨u, h1, h2, by rw [h3.sc.1]; exact d2⟩
        · exact a4 q v hv
      · subst hok; simp at hc
    · refine i2.ok j p o hp ?_
      rw [← ho]
      by_cases hl : j < h.length
      · rw [List.getElem?_append_left hl, List.getElem?_append_left (by simpa using hl), List.getElem?_set_ne (fun e => hj e.symm)]
      · rw [List.getElem?_append_right (by omega), List.getElem?_append_right (by simp; omega)]; simp

/-! ### Calls that hand objects on -/
def pickH (h : List Ho) : List Nat → Option (List Ho)
  | [] => some []
  | j :: ρ => match h[j]?, pickH h ρ with
    | some o, some os => some (o :: os)
    | _, _ => none
theorem pickH_get {h : List Ho} : ∀ {ρ : List Nat} {os : List Ho}, pickH h ρ = some os → os.length = ρ.length ∧ ∀ (i j : Nat), ρ[i]? = some j → h[j]? = os[i]?
  | [], os, e => by simp only [pickH] at e; cases e; exact ⟨rfl, fun i j h => by simp at h⟩
  | x :: ρ, os, e => by
    simp only [pickH] at e
    split at e
    · rename_i o os' h1 h2
      cases e
      obtain ⟨a, b⟩ := pickH_get h2
      refine ⟨by simp [a], fun i j hi => ?_⟩
      cases i with
      | zero => simp at hi; subst hi; simpa using h1
      | succ i => simpa using b i j (by simpa using hi)
    · cases e
theorem Sp.fr {f : FuncId} {vs vs' : List V} {h hl hl' : List Ho} {v : V} (ρ : List Nat) (hs : Sp P K f vs' hl fun u hh => u = v ∧ hh = hl') (hn : ρ.Nodup) (hp : pickH h ρ = some (hl.map (renO (gOf ρ h.length)))) (hw : Wk vs (vs'.map (renV (gOf ρ h.length)))) :
    Sp P K f vs h fun u hh => u = renV (gOf ρ h.length) v ∧ hh = mergeH h ρ (hl'.map (renO (gOf ρ h.length))) := by
  obtain ⟨h1, h2⟩ := pickH_get hp
  refine hs.frame ρ hn (by simpa using h1.symm) (fun i j o hi ho => ?_) (fun j hj => ?_) (fun F φ w rs hd => hw F φ w rs hd) fun u hh ⟨e1, e2⟩ => by rw [e1, e2]; exact ⟨rfl, rfl⟩
  · rw [h2 i j hi, List.getElem?_map, ho]; rfl
  · obtain ⟨i, hi⟩ := List.mem_iff_getElem?.1 hj
    have h3 := h2 i j hi
    obtain ⟨o, ho⟩ := ofLtL (xs := hl.map (renO (gOf ρ h.length))) (i := i) (by rw [h1]; exact get_lt hi)
    rw [ho] at h3
    exact get_lt h3
section
variable {ops : Array Oper} {N : Sv → Prop} {l : List Oper} {st : Sv} {dst : Option Tmp} {v : V} {f : FuncId} {vs : List V}
theorem CallO.fr (ρ : List Nat) {vs' : List V} {hl hl' : List Ho} (he : Enters P f) (hs : Sp P K f vs' hl fun u hh => u = v ∧ hh = hl') (hn : ρ.Nodup) (hp : pickH st.h ρ = some (hl.map (renO (gOf ρ st.h.length)))) (hw : Wk vs (vs'.map (renV (gOf ρ st.h.length))))
    (hr : opsV P M K ops N l ⟨putV st.tm dst (renV (gOf ρ st.h.length) v), mergeH st.h ρ (hl'.map (renO (gOf ρ st.h.length)))⟩) : CallO P M K ops N l f vs st dst :=
  CallV.mk he (Sp.fr ρ hs hn hp hw) fun u hh ⟨e1, e2⟩ => by rw [e1, e2]; exact hr
end
end

section
open Go Go.RowKit
set_option linter.unusedVariables false
set_option linter.unusedSimpArgs false
variable {F : Fr} {P : Program} {M : Oper → TypeId → Bool} {K : Nat → Obj → Prop} {n0 : Nat}

def chunks (k n : Nat) (l : List D) : List (List D) := (List.range n).map fun i => (l.drop (i * k)).take k
theorem chunks_len (k n : Nat) (l : List D) : (chunks k n l).length = n := by simp [chunks]
theorem chunks_get {k n : Nat} {l : List D} {i : Nat} {e : List D} (h : (chunks k n l)[i]? = some e) : i < n ∧ e = (l.drop (i * k)).take k := by
  unfold chunks at h
  rw [List.getElem?_map] at h
  obtain ⟨x, hx, rfl⟩ := Option.map_eq_some_iff.1 h
  have hlt := get_lt hx
  simp only [List.length_range] at hlt
  rw [List.getElem?_range hlt] at hx
  cases hx
  exact ⟨hlt, rfl⟩

mutual
/-- A value where the object o, whose cells are ds, is data. -/
def frV (o : Nat) (ds : List D) : V → V
  | .d x => .d x
  | .agg cs => .agg (frL o ds cs)
  | .tup cs => .tup (frL o ds cs)
  | .own k es t => .own k es t
  | .full k es => .full k es
  | .ptr o' off => if o' = o then .ep ds off else .ptr o' off
  | .ep c off => .ep c off
  | .hs g k o' off n => if o' = o then (if off + n * k ≤ ds.length then .d (.sl k (chunks k n (ds.drop off))) else .any) else .hs g k o' off n
  | .mp o' => .mp o'
  | .fn g cs => .fn g (frL o ds cs)
  | .any => .any
  | .ub => .ub
def frL (o : Nat) (ds : List D) : List V → List V
  | [] => []
  | v :: vs => frV o ds v :: frL o ds vs
end
theorem frL_map (o : Nat) (ds : List D) : ∀ l : List V, frL o ds l = l.map (frV o ds)
  | [] => by simp [frL]
  | v :: vs => by simp [frL, frL_map o ds vs]
theorem frL_get (o : Nat) (ds : List D) (l : List V) (i : Nat) : (frL o ds l)[i]? = (l[i]?).map (frV o ds) := by rw [frL_map, List.getElem?_map]
theorem frL_len (o : Nat) (ds : List D) (l : List V) : (frL o ds l).length = l.length := by rw [frL_map, List.length_map]
def frO (o : Nat) (ds : List D) : Ho → Ho
  | .cells cs => .cells (frL o ds cs)
  | .map m => .map (m.mapV (frV o ds))
  | .tail => .tail
  | .dead => .dead
  | .yet => .yet

theorem Den.fr {F : Fr} {φ : List Pl} {w : World} {h : List Ho} {o : Nat} {cs : List V} {ds : List D} (hi : Inv F φ w h) (ho : h[o]? = some (.cells cs)) (hd : toDs cs = some ds) {r : Value} {v : V} (hv : Den F φ w r v) :
    Den F (φ.set o .dead) w r (frV o ds v) := by
  have he := Ext.kill φ w o
  have hn : ds.length = cs.length := by
    have : ∀ (cs : List V) (ds : List D), toDs cs = some ds → ds.length = cs.length := fun cs => by
      induction cs with
      | nil => intro ds h; simp only [toDs] at h; cases h; rfl
      | cons v vs ih =>
        intro ds h
        unfold toDs at h
        split at h
        · rename_i x xs h1 h2; cases h; simp [ih xs h2]
        · cases h
    exact this cs ds hd
  have key : ∀ (b z : Nat), φ[o]? = some (.obj b z) → (∀ j, j < ds.length → ∃ u, cellP F (φ.set o .dead) w b j u ∧ ∀ x, ds[j]? = some x → DenD F (φ.set o .dead) w u x) := fun b z hp j hj => by
    rcases obj_cells hi ho with ⟨rfl, hf⟩ | ⟨b', z', arr, T, hp', hrow, hz, hlen, hce⟩
    · rw [hn] at hj; simp at hj
    · rw [hp] at hp'; cases hp'
      obtain ⟨_, hg⟩ := toDs_den hd hce.1
      obtain ⟨x, hx⟩ := ofLtL hj
      obtain ⟨u, hu, hdu⟩ := hg j x hx
      rw [List.getElem?_take, if_pos (by omega), Array.getElem?_toList] at hu
      refine ⟨u, ⟨⟨hi.lt hp rfl, fun i hi' => ?_, fun i e hi' => ?_, hi.frO o _ b j hp rfl⟩, (cell_of w b j u).2 ⟨arr, T, _, hrow, hu⟩⟩, fun y hy => ?_⟩
      · rcases get_set hi' with ⟨_, h, _⟩ | ⟨hne, h⟩
        · cases h
        · exact hne (hi.apart i o _ _ b h hp rfl rfl)
      · rcases get_set hi' with ⟨_, h, _⟩ | ⟨hne, h⟩
        · cases h
        · exact absurd (hi.apart i o _ _ b h hp rfl rfl) hne
      · rw [hx] at hy; cases hy; exact hdu.ext he
  have place : ∃ p, φ[o]? = some p ∧ ((∃ b z, p = .obj b z) ∨ (p = .free ∧ cs = [])) := by
    rcases obj_cells hi ho with ⟨h1, h2⟩ | ⟨b, z, _, _, h1, _⟩
    · exact ⟨_, h2, .inr ⟨rfl, h1⟩⟩
    · exact ⟨_, h1, .inl ⟨b, z, rfl⟩⟩
  -- a slice of the object's cells
  have slice : ∀ {k off n cap b : Nat}, (∀ {z : Nat} (b' : Nat), φ[o]? = some (Pl.obj b' z) → b' = b) → n ≤ cap → cap ≤ 9223372036854775807 → off + n * k ≤ ds.length →
      DenD F (φ.set o .dead) w (.slice (some ⟨b, off, none⟩) n cap) (.sl k (chunks k n (ds.drop off))) := fun {k off n cap b} hb h1 h2 h3 => by
    have hk : ∀ (i : Nat) (e : List D), (chunks k n (ds.drop off))[i]? = some e → e.length = k := fun i e he => by
      obtain ⟨hlt, rfl⟩ := chunks_get he
      have : (i + 1) * k ≤ n * k := Nat.mul_le_mul_right k hlt
      rw [Nat.add_mul] at this
      simp; omega
    obtain ⟨p, hp, ⟨b', z, rfl⟩ | ⟨rfl, rfl⟩⟩ := place
    · have := hb b' hp
      subst this
      have hkey := key b' z hp
      let f : Nat → Value := fun j => if hj : j < ds.length then (hkey j hj).choose else undef
      have hf : ∀ j, j < ds.length → cellP F (φ.set o .dead) w b' j (f j) ∧ ∀ x, ds[j]? = some x → DenD F (φ.set o .dead) w (f j) x := fun j hj => by
        have := (hkey j hj).choose_spec
        simp only [f, dif_pos hj]; exact this
      refine .sl (fun i j => f (off + i * k + j)) (chunks_len _ _ _) ⟨h1, h2⟩ hk (fun i j hi' hj => ?_) (fun i e j x he hx => ?_)
      · have : (i + 1) * k ≤ n * k := Nat.mul_le_mul_right k hi'
        rw [Nat.add_mul] at this
        exact (hf _ (by omega)).1
      · obtain ⟨hlt, rfl⟩ := chunks_get he
        have : (i + 1) * k ≤ n * k := Nat.mul_le_mul_right k hlt
        rw [Nat.add_mul] at this
        rw [List.getElem?_take] at hx
        split at hx
        · rename_i hj
          rw [List.getElem?_drop, List.getElem?_drop] at hx
          exact (hf _ (by omega)).2 x (by rw [← hx]; congr 1; omega)
        · cases hx
    · have hdl : ds.length = 0 := by simpa using hn
      have hnk : n * k = 0 := by omega
      rcases Nat.mul_eq_zero.1 hnk with rfl | rfl
      · exact .sl (fun _ _ => undef) (chunks_len _ _ _) ⟨h1, h2⟩ hk (fun i j hi' => absurd hi' (Nat.not_lt_zero _)) (fun i e j x he => absurd (chunks_get he).1 (Nat.not_lt_zero _))
      · exact .sl (fun _ _ => undef) (chunks_len _ _ _) ⟨h1, h2⟩ hk (fun i j hi' hj => absurd hj (Nat.not_lt_zero _)) (fun i e j x he hx => by
          obtain ⟨hlt, rfl⟩ := chunks_get he
          simp at hx)
  induction hv with
  | d hx => exact .d (hx.ext he)
  | agg hs h1 _ ih =>
    refine .agg (by rw [hs, frL_len]) h1 fun i r v hr hv => ?_
    rw [frL_get] at hv
    obtain ⟨x, hx, rfl⟩ := Option.map_eq_some_iff.1 hv
    exact ih i r x hr hx
  | tup hs _ ih =>
    refine .tup (by rw [hs, frL_len]) fun i r v hr hv => ?_
    rw [frL_get] at hv
    obtain ⟨x, hx, rfl⟩ := Option.map_eq_some_iff.1 hv
    exact ih i r x hr hx
  | own ht h1 h2 h3 h4 h5 => exact Den.ext he (.own ht h1 h2 h3 h4 h5)
  | ownEx ht h1 h2 h3 => exact Den.ext he (.ownEx ht h1 h2 h3)
  | full h1 h2 => exact Den.ext he (.full h1 h2)
  | @ptr o' off b hlv hb =>
    simp only [frV]
    split
    · rename_i e
      subst e
      obtain ⟨p, hp, ⟨b', z, rfl⟩ | ⟨rfl, rfl⟩⟩ := place
      · have := hb b' hp
        subst this
        have hkey := key b' z hp
        refine .ep (at_ := 0) (fun j => if hj : j < ds.length then (hkey j hj).choose else undef) (by omega) (fun j hj => ?_) (fun j x hx => ?_)
        · have := (hkey j hj).choose_spec
          simp only [dif_pos hj, Nat.zero_add]; exact this.1
        · have hj := get_lt hx
          have := (hkey j hj).choose_spec
          simp only [dif_pos hj]; exact this.2 x hx
      · have hdl : ds.length = 0 := by simpa using hn
        exact .ep (at_ := 0) (fun _ => undef) (by omega) (fun j hj => by omega) (fun j x hx => by have := get_lt hx; omega)
    · exact Den.ext he (.ptr hlv hb)
  | ep c ha hc hd' => exact Den.ext he (.ep c ha hc hd')
  | @hs g k o' off n cap b hlv hb hcap hf =>
    simp only [frV]
    split
    · rename_i e
      subst e
      split
      · rename_i hle
        exact .d (slice (fun b' hb' => (hb b' hb').1) hcap.1 hcap.2 hle)
      · exact .any
    · exact Den.ext he (.hs hlv hb hcap hf)
  | @hsE k o' off cap a hlv ha hc hsp =>
    simp only [frV]
    split
    · split
      · refine .d ?_
        have e0 : chunks k 0 (ds.drop off) = [] := rfl
        rw [e0]
        cases a with
        | none => obtain rfl := ha rfl; exact .nil
        | some a =>
          obtain ⟨b, off', sp⟩ := a
          cases sp with
          | none => exact .sl (fun _ _ => undef) rfl ⟨Nat.zero_le _, hc⟩ (fun i e he => by simp at he) (fun i j hi' => absurd hi' (Nat.not_lt_zero _)) (fun i e j x he => by simp at he)
          | some q =>
            have := hsp _ rfl; cases this
      · exact .any
    · exact Den.ext he (.hsE hlv ha hc hsp)
  | @hsN k o' off a hlv hb =>
    simp only [frV]
    split
    · split
      · exact .d .nil
      · exact .any
    · exact Den.ext he (.hsN hlv hb)
  | any => exact .any
  | ub => exact .ub
  | mp hlv hb => exact Den.ext he (.mp hlv hb)
  | fn hs _ ih =>
    refine .fn (by rw [hs, frL_len]) fun i r v hr hv => ?_
    rw [frL_get] at hv
    obtain ⟨x, hx, rfl⟩ := Option.map_eq_some_iff.1 hv
    exact ih i r x hr hx

theorem Desc.freeze {tm : List V} {h : List Ho} (o : Nat) {cs : List V} {ds : List D} (ho : h[o]? = some (.cells cs)) (hd : toDs cs = some ds) : Desc K n0 ⟨tm, h⟩ ⟨frL o ds tm, (h.map (frO o ds)).set o .dead⟩ := by
  intro F φ0 w0 h0 hK hn0 hi0 a w ⟨φ, he, hi, ht, hdf⟩
  have hk := hi.kill o
  refine ⟨φ.set o .dead, he.trans hi0 (.kill φ w o), ⟨by simp [hi.len], fun i p x hp hx => ?_, hk.apart, hk.frB, hk.frO, hk.frK⟩, ⟨by rw [ht.1, frL_len], fun t r v hr hv => ?_⟩, hdf⟩
  · rcases get_set hp with ⟨rfl, rfl, _⟩ | ⟨hne, hp⟩
    · rcases get_set hx with ⟨_, rfl, _⟩ | ⟨hne, _⟩
      · trivial
      · exact absurd rfl hne
    · rcases get_set hx with ⟨e, _, _⟩ | ⟨_, hx⟩
      · exact absurd e hne
      · rw [List.getElem?_map] at hx
        obtain ⟨x0, hx0, rfl⟩ := Option.map_eq_some_iff.1 hx
        have hok := hi.ok i p x0 hp hx0
        cases p <;> cases x0 <;> simp only [ObOk, frO] at hok ⊢
        · obtain ⟨arr, hr, hz, hl, hdd⟩ := hok
          refine ⟨arr, hr, hz, by rw [frL_len]; exact hl, fun k v hv => ?_⟩
          rw [frL_get] at hv
          obtain ⟨y, hy, rfl⟩ := Option.map_eq_some_iff.1 hv
          obtain ⟨u, h1, h2, h3⟩ := hdd k y hy
          exact ⟨u, h1, h2, h3.fr hi ho hd⟩
        · obtain ⟨ents, clock, hr, hl, hdd⟩ := hok
          refine ⟨ents, clock, hr, by simpa [GM.mapV] using hl, fun k m e hm he => ?_⟩
          simp only [GM.mapV, List.getElem?_map] at he
          obtain ⟨y, hy, rfl⟩ := Option.map_eq_some_iff.1 he
          obtain ⟨h1, h2⟩ := hdd k m y hm hy
          exact ⟨h1, h2.fr hi ho hd⟩
        · exact hok
        · subst hok; rfl
  · rw [frL_get] at hv
    obtain ⟨y, hy, rfl⟩ := Option.map_eq_some_iff.1 hv
    exact (ht.2 t r y hr hy).fr hi ho hd
end

section
open Go Go.RowKit
set_option linter.unusedVariables false
set_option linter.unusedSimpArgs false
variable {F : Fr} {P : Program} {M : Oper → TypeId → Bool} {K : Nat → Obj → Prop} {n0 : Nat}

theorem Desc.nilT {tm : List V} {h : List Ho} (i k : Nat) (hc : tm[i]? = some (.sc (.slice none 0 0))) : Desc K n0 ⟨tm, h⟩ ⟨tm.set i (.hs true k h.length 0 0), h ++ [.cells []]⟩ := by
  intro F φ0 w0 h0 hK hn0 hi0' a w ⟨φ, he, hi, ht, hdf⟩
  have e1 := Ext.reserve φ w
  have i1 := hi.reserve
  have hr : (φ ++ [Pl.yet])[h.length]? = some .yet := by rw [← hi.len]; simp
  obtain ⟨φ', e2, i2, d2⟩ := den_nilH (k := k) i1 hr none
  have e3 := e1.trans hi e2
  have hlen : (h ++ [Ho.yet]).set h.length (.cells []) = h ++ [.cells []] := by
    rw [List.set_append_right _ _ (Nat.le_refl _)]; simp
  rw [hlen] at i2
  have ht' := ht.ext e3
  refine ⟨φ', he.trans hi0' e3, i2, ⟨by rw [ht'.1]; simp, fun t r v hr hv => ?_⟩, hdf⟩
  rcases get_set hv with ⟨rfl, rfl, _⟩ | ⟨hne, hv⟩
  · rw [(ht'.2 t r _ hr hc).sc.1]; exact d2
  · exact ht'.2 t r v hr hv

theorem flatD_nil : flatD [] = [] := rfl
theorem flatD_cons (e : List D) (es : List (List D)) : flatD (e :: es) = e.map V.d ++ flatD es := by simp [flatD]
/-- A loop whose state is told by a number that goes up to n. -/
theorem WPV.loopN {x : Code} {Q : Exit → Sv → Prop} (n : Nat) (I : Nat → Sv) (h : ∀ k, k ≤ n → (k < n → WPV P K n0 (.loop x) Q (I (k + 1))) → WPV P K n0 (.loop x) Q (I k)) : WPV P K n0 (.loop x) Q (I 0) := by
  have : ∀ d k, k ≤ n → n - k = d → WPV P K n0 (.loop x) Q (I k) := fun d => by
    induction d with
    | zero => exact fun k hk hd => h k hk fun hlt => absurd hlt (by omega)
    | succ d ih => exact fun k hk hd => h k hk fun hlt => ih (k + 1) hlt (by omega)
  exact this _ 0 (Nat.zero_le _) rfl
/-- From number k on. -/
theorem WPV.loopM {x : Code} {Q : Exit → Sv → Prop} (n k : Nat) (I : Nat → Sv) (hk : k ≤ n) (h : ∀ k, k ≤ n → (k < n → WPV P K n0 (.loop x) Q (I (k + 1))) → WPV P K n0 (.loop x) Q (I k)) : WPV P K n0 (.loop x) Q (I k) := by
  have : ∀ d k, k ≤ n → n - k = d → WPV P K n0 (.loop x) Q (I k) := fun d => by
    induction d with
    | zero => exact fun k hk hd => h k hk fun hlt => absurd hlt (by omega)
    | succ d ih => exact fun k hk hd => h k hk fun hlt => ih (k + 1) hlt (by omega)
  exact this _ k hk rfl
/-- A loop whose state is told by some a, of which J holds; m goes down. -/
theorem WPV.loopA {x : Code} {Q : Exit → Sv → Prop} {α : Type} (m : α → Nat) (I : α → Sv) (J : α → Prop) (h : ∀ a, J a → (∀ a', J a' → m a' < m a → WPV P K n0 (.loop x) Q (I a')) → WPV P K n0 (.loop x) Q (I a)) (a : α) (ha : J a) : WPV P K n0 (.loop x) Q (I a) := by
  have : ∀ d a, J a → m a < d → WPV P K n0 (.loop x) Q (I a) := fun d => by
    induction d with
    | zero => exact fun a _ hd => absurd hd (Nat.not_lt_zero _)
    | succ d ih => exact fun a hJ hd => h a hJ fun a' hJ' hlt => ih a' hJ' (by omega)
  exact this _ a ha (Nat.lt_succ_self _)
theorem WkH.refl : ∀ h : List Ho, WkH h h
  | [] => .nil
  | o :: h => .same (WkH.refl h)
theorem WkH.cons {cs cs' : List V} {h h' : List Ho} (hc : Wk cs cs') (hs : WkH h h') : WkH (.cells cs :: h) (.cells cs' :: h') := .cells hc hs

theorem frs_0 (n : Nat) : frs n 0 = [] := rfl
theorem frs_1 (n : Nat) : frs n 1 = [n] := by simp [frs]
theorem frs_2 (n : Nat) : frs n 2 = [n, n + 1] := by simp [frs, List.range_succ]
theorem frs_3 (n : Nat) : frs n 3 = [n, n + 1, n + 2] := by simp [frs, List.range_succ]
theorem frs_4 (n : Nat) : frs n 4 = [n, n + 1, n + 2, n + 3] := by simp [frs, List.range_succ]

section
variable {ops : Array Oper} {N : Sv → Prop} {l : List Oper} {tm : List V} {h : List Ho} {ids : List (List Nat × List Nat)} {dst : Option Tmp} {v : V} {f : FuncId} {vs : List V}
theorem CallP.fr (ρ : List Nat) (m : Nat) {vs' : List V} {hl hl' : List Ho} (he : Enters P f) (hs : Sp P K f vs' hl fun u hh => u = v ∧ hh = hl') (hn : decide (ρ ++ frs h.length m).Nodup = true) (hm : hl'.length = ρ.length + m)
    (hp : ∀ B, pickH h ρ = some (hl.map (renO (gB (ρ ++ frs h.length m) B)))) (hw : ∀ B, Wk vs (vs'.map (renV (gB (ρ ++ frs h.length m) B))))
    (hr : drawV P M K ops N l (putV tm dst (renV (gB (ρ ++ frs h.length m) 0) v)) (wrs (padY h m) ((ρ ++ frs h.length m).zip (hl'.map (renO (gB (ρ ++ frs h.length m) 0))))) ((ρ ++ frs h.length m, ((ρ ++ frs h.length m).zip (hl'.map (renO (gB (ρ ++ frs h.length m) 0)))).map (·.1)) :: ids)) :
    CallP P M K ops N l tm h ids dst f vs := by
  have h0 := pickH_get (hp 0)
  have hlen : ρ.length = hl.length := by simpa using h0.1.symm
  refine ⟨he, ρ, vs', hl, hl', v, m, of_decide_eq_true hn, hlen, hm, hs, fun j hj => ?_, fun B i j o hi ho => ?_, fun B F φ w rs hd => hw B F φ w rs hd, hr⟩
  · obtain ⟨i, hi⟩ := List.mem_iff_getElem?.1 hj
    have h3 := h0.2 i j hi
    obtain ⟨o, ho⟩ := ofLtL (xs := hl.map (renO (gB (ρ ++ frs h.length m) 0))) (i := i) (by rw [h0.1]; exact get_lt hi)
    rw [ho] at h3
    exact get_lt h3
  · rw [(pickH_get (hp B)).2 i j hi, List.getElem?_map, ho]; rfl
end
end
end
end Go.Proofs.Ytonllhjmoenckaa
