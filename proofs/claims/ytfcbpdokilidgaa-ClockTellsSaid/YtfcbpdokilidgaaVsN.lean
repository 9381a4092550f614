/- A contract serves where numbers were set aside for what the callee makes. No program stands here. -/
import Derived.Test.YtfcbpdokilidgaaVsJ
namespace Go.Proofs.Ytfcbpdokilidgaa
open Go Go.RowKit
set_option linter.unusedVariables false
set_option linter.unusedSimpArgs false
variable {F : Fr} {P : Program} {K : Nat → Obj → Prop}

/-- The callee's numbers are those of ρ; behind them none. -/
def gB (ρ : List Nat) (B i : Nat) : Nat := (ρ[i]?).getD (B + i)

/-- Numbers that no object has may be told otherwise. -/
theorem Den.reg {F : Fr} {φ : List Pl} {w : World} {g g' : Nat → Nat} (hg : ∀ i, lv φ (g i) → g' i = g i) {r : Value} {u : V} (hd : Den F φ w r u) : ∀ v, u = renV g v → Den F φ w r (renV g' v) := by
  induction hd with
  | d h => intro v e; cases v <;> simp only [renV, reduceCtorEq] at e <;> cases e; exact .d h
  | agg hs h1 _ ih =>
    intro v e; cases v <;> simp only [renV, reduceCtorEq] at e
    cases e
    refine .agg (by rw [hs, renL_len, renL_len]) h1 fun i r v hr hv => ?_
    rw [renL_get] at hv
    obtain ⟨x, hx, rfl⟩ := Option.map_eq_some_iff.1 hv
    exact ih i r _ hr (by rw [renL_get, hx]; rfl) x rfl
  | tup hs _ ih =>
    intro v e; cases v <;> simp only [renV, reduceCtorEq] at e
    cases e
    refine .tup (by rw [hs, renL_len, renL_len]) fun i r v hr hv => ?_
    rw [renL_get] at hv
    obtain ⟨x, hx, rfl⟩ := Option.map_eq_some_iff.1 hv
    exact ih i r _ hr (by rw [renL_get, hx]; rfl) x rfl
  | own ht h hn hpl hf ho =>
    intro v e; cases v <;> simp only [renV, reduceCtorEq] at e
    cases e
    rw [renV, hg _ ht]
    exact .own ht h hn hpl hf ho
  | ownNil ht h =>
    intro v e; cases v <;> simp only [renV, reduceCtorEq] at e
    cases e
    rw [renV, hg _ ht]
    exact .ownNil ht h
  | full h hn => intro v e; cases v <;> simp only [renV, reduceCtorEq] at e <;> cases e; exact .full h hn
  | ptr ho h =>
    intro v e; cases v <;> simp only [renV, reduceCtorEq] at e
    cases e
    rw [renV, hg _ ho]
    exact .ptr ho h
  | ep c ha hc hd => intro v e; cases v <;> simp only [renV, reduceCtorEq] at e <;> cases e; exact .ep c ha hc hd
  | hs ho h hcap =>
    intro v e; cases v <;> simp only [renV, reduceCtorEq] at e
    cases e
    rw [renV, hg _ ho]
    exact .hs ho h hcap
  | mp ho h =>
    intro v e; cases v <;> simp only [renV, reduceCtorEq] at e
    cases e
    rw [renV, hg _ ho]
    exact .mp ho h
  | fn hs _ ih =>
    intro v e; cases v <;> simp only [renV, reduceCtorEq] at e
    cases e
    refine .fn (by rw [hs, renL_len, renL_len]) fun i r v hr hv => ?_
    rw [renL_get] at hv
    obtain ⟨x, hx, rfl⟩ := Option.map_eq_some_iff.1 hv
    exact ih i r _ hr (by rw [renL_get, hx]; rfl) x rfl
theorem ObOk.reg {F : Fr} {φ : List Pl} {w : World} {g g' : Nat → Nat} (hg : ∀ i, lv φ (g i) → g' i = g i) {p : Pl} {o : Ho} (h : ObOk F φ w p (renO g o)) : ObOk F φ w p (renO g' o) := by
  cases p <;> cases o <;> first | exact h.elim | skip
  · obtain ⟨arr, a, b, c⟩ := h
    refine ⟨arr, a, by rw [renL_len] at b ⊢; exact b, fun j v hv => ?_⟩
    rw [renL_get] at hv
    obtain ⟨x, hx, rfl⟩ := Option.map_eq_some_iff.1 hv
    obtain ⟨u, h1, h2, h3⟩ := c j _ (by rw [renL_get, hx]; rfl)
    exact ⟨u, h1, h2, h3.reg hg x rfl⟩
  · obtain ⟨ents, clock, a, b, c⟩ := h
    refine ⟨ents, clock, a, by simpa using b, fun j m e hm he => ?_⟩
    rw [List.getElem?_map] at he
    obtain ⟨x, hx, rfl⟩ := Option.map_eq_some_iff.1 he
    obtain ⟨h1, h2⟩ := c j m (x.1, renV g x.2) hm (by rw [List.getElem?_map, hx]; rfl)
    exact ⟨h1, h2.reg hg x.2 rfl⟩
  all_goals exact h

theorem Sp.frameR {f : FuncId} {vs vs' : List V} {h hl : List Ho} {R N : V → List Ho → Prop} (hs : Sp P K f vs' hl R) (ρ fr : List Nat) (hn : (ρ ++ fr).Nodup) (hlen : ρ.length = hl.length)
    (hyet : ∀ j ∈ fr, h[j]? = some .yet) (hcount : ∀ v hl', R v hl' → hl'.length = (ρ ++ fr).length)
    (hpick : ∀ (B i j : Nat) (o : Ho), ρ[i]? = some j → hl[i]? = some o → h[j]? = some (renO (gB (ρ ++ fr) B) o))
    (hb : ∀ j ∈ ρ, j < h.length)
    (hv : ∀ (B : Nat) (F : Fr) (φ : List Pl) (w : World) (rs : List Value), DenL F φ w rs vs → DenL F φ w rs (vs'.map (renV (gB (ρ ++ fr) B))))
    (hk : ∀ (v : V) (hl' : List Ho), R v hl' → N (renV (gB (ρ ++ fr) 0) v) (setAll h (ρ ++ fr) (hl'.map (renO (gB (ρ ++ fr) 0))))) : Sp P K f vs h N := by
  intro F φ w args hK hi hd
  have hφ : ∀ j ∈ ρ, j < φ.length := fun j hj => by rw [hi.len]; exact hb j hj
  have hyφ : ∀ j ∈ fr, φ[j]? = some .yet := fun j hj => by
    have h1 := hyet j hj
    obtain ⟨p, hp⟩ := ofLtL (xs := φ) (i := j) (by rw [hi.len]; exact get_lt h1)
    have := hi.ok j p _ hp h1
    cases p <;> first | exact this.elim | exact hp
  have hφ' : ∀ j ∈ ρ ++ fr, j < φ.length := fun j hj => by
    rcases List.mem_append.1 hj with hj | hj
    · exact hφ j hj
    · exact get_lt (hyφ j hj)
  have hnρ : ρ.Nodup := (List.nodup_append.1 hn).1
  -- a number that has an object is one of ρ's
  have gin0 : ∀ i, lv φ (gB (ρ ++ fr) φ.length i) → ∃ j, ρ[i]? = some j ∧ gB (ρ ++ fr) φ.length i = j := fun i ⟨p, hp, hne⟩ => by
    unfold gB at hp ⊢
    cases hr : (ρ ++ fr)[i]? with
    | none => rw [hr] at hp; have := get_lt hp; simp only [Option.getD_none] at this; omega
    | some j =>
      rw [hr] at hp
      by_cases hlt : i < ρ.length
      · rw [List.getElem?_append_left hlt] at hr
        exact ⟨j, hr, rfl⟩
      · rw [List.getElem?_append_right (by omega)] at hr
        have := hyφ j (List.mem_of_getElem? hr)
        simp only [Option.getD_some] at hp
        rw [this] at hp; cases hp; exact absurd rfl hne
  let φl : List Pl := ρ.map fun j => (φ[j]?).getD .dead
  have hφl : ∀ i : Nat, φl[i]? = (ρ[i]?).bind fun j => φ[j]? := fun i => by
    simp only [φl, List.getElem?_map]
    cases hr : ρ[i]? with
    | none => rfl
    | some j =>
      obtain ⟨p, hp⟩ := ofLtL (hφ j (List.mem_of_getElem? hr))
      simp [hp]
  have hlφ : φl.length = ρ.length := by simp [φl]
  let F' : Fr := ⟨fun b o => F.shut b o ∨ ∃ (j : Nat) (p : Pl), φ[j]? = some p ∧ j ∉ ρ ∧ (p = .obj b ∨ ∃ e, p = .tail b e ∧ e ≤ o), F.known⟩
  have old : ∀ (i : Nat) (p : Pl), φl[i]? = some p → ∃ j, ρ[i]? = some j ∧ φ[j]? = some p := fun i p hp => by
    rw [hφl] at hp
    cases hr : ρ[i]? with
    | none => rw [hr] at hp; cases hp
    | some j => rw [hr] at hp; exact ⟨j, rfl, hp⟩
  have pdown : ∀ b o, prot F φ w b o → prot F' φl w b o := fun b o ⟨h1, h2, h3, h4⟩ =>
    ⟨h1, fun i hi' => by obtain ⟨j, _, hj⟩ := old i _ hi'; exact h2 j hj, fun i e hi' => by obtain ⟨j, _, hj⟩ := old i _ hi'; exact h3 j e hj, fun hF => by
      rcases hF with hF | ⟨j, p, hj, _, rfl | ⟨e, rfl, hle⟩⟩
      · exact h4 hF
      · exact h2 j hj
      · have := h3 j e hj; omega⟩
  have gdown : ∀ i, lv φ (gB (ρ ++ fr) φ.length i) → lv φl i ∧ φl[i]? = φ[gB (ρ ++ fr) φ.length i]? := fun i hlv => by
    obtain ⟨j, hr, e1⟩ := gin0 i hlv
    obtain ⟨p, hp, hne⟩ := hlv
    rw [e1] at hp ⊢
    have e : φl[i]? = φ[j]? := by rw [hφl, hr]; rfl
    exact ⟨⟨p, by rw [e]; exact hp, hne⟩, e⟩
  have hinvl : Inv F' φl w hl := by
    refine ⟨by rw [hlφ, hlen], fun i p o hp ho => ?_, fun i j p q b hp hq hb1 hb2 => ?_, fun b o hF => ?_, fun i p b o hp hb1 hF => ?_, fun b x hx => ?_⟩
    · obtain ⟨j, hr, hj⟩ := old i p hp
      have hok := hi.ok j p _ hj (hpick φ.length i j o hr ho)
      cases p <;> cases o <;> simp only [ObOk, renO] at hok ⊢
      · obtain ⟨arr, hr, hl, hd⟩ := hok
        refine ⟨arr, hr, by rw [renL_len] at hl; exact hl, fun k v hv => ?_⟩
        obtain ⟨u, h1, h2, h3⟩ := hd k _ (by rw [renL_get, hv]; rfl)
        exact ⟨u, h1, h2, h3.down pdown gdown v rfl⟩
      · obtain ⟨ents, clock, hr, hl, hd⟩ := hok
        refine ⟨ents, clock, hr, by simpa using hl, fun k m e hm he => ?_⟩
        obtain ⟨h1, h2⟩ := hd k m (e.1, renV _ e.2) hm (by rw [List.getElem?_map, he]; rfl)
        exact ⟨h1, h2.down pdown gdown _ rfl⟩
      · exact hok
    · obtain ⟨i', hr, hj⟩ := old i p hp
      obtain ⟨j', hr', hj'⟩ := old j q hq
      have := hi.apart i' j' p q b hj hj' hb1 hb2
      subst this
      exact (List.getElem?_inj (get_lt hr) hnρ).1 (by rw [hr, hr'])
    · rcases hF with hF | ⟨j, p, hj, _, rfl | ⟨e, rfl, hle⟩⟩
      · exact hi.frB b o hF
      · exact hi.lt hj rfl
      · exact hi.lt hj rfl
    · obtain ⟨i', hr, hi'⟩ := old i p hp
      rcases hF with hF | ⟨j, q, hj, hjn, hq⟩
      · exact hi.frO i' p b o hi' hb1 hF
      · have : i' = j := hi.apart i' j p q b hi' hj hb1 (by rcases hq with rfl | ⟨e, rfl, _⟩ <;> rfl)
        subst this
        exact hjn (List.mem_of_getElem? hr)
    · obtain ⟨h1, h2⟩ := hi.frK b x hx
      exact ⟨h1, fun i p hp => by obtain ⟨j, _, hj⟩ := old i p hp; exact h2 j p hj⟩
  have hdl : DenL F' φl w args.toList vs' := by
    have h1 := hv φ.length F φ w _ hd
    refine .of_get (by have := h1.length; simpa using this) fun i r v hr hvv => ?_
    exact (h1.get i r _ hr (by rw [List.getElem?_map, hvv]; rfl)).down pdown gdown v rfl
  refine (hs F' φl w args hK hinvl hdl).mono ?_
  rintro e w' ⟨u, φl', v, hl', rfl, he, hil, hdv, hR⟩
  have hcl : hl'.length = (ρ ++ fr).length := hcount v hl' hR
  have hcp : φl'.length = (ρ ++ fr).length := by rw [hil.len, hcl]
  let φ' : List Pl := setAll φ (ρ ++ fr) φl'
  have hlen' : φ'.length = φ.length := setAll_len _ _ _
  have gin : ∀ (i j : Nat), (ρ ++ fr)[i]? = some j → φ'[j]? = φl'[i]? := fun i j hr => setAll_at _ _ φ hn hcp.symm hφ' i j hr
  have gout : ∀ j, j ∉ ρ ++ fr → φ'[j]? = φ[j]? := fun j hjn => setAll_not _ _ φ j hjn
  have src : ∀ (x : Nat) (p : Pl), φ'[x]? = some p → (∃ i, φl'[i]? = some p ∧ (ρ ++ fr)[i]? = some x) ∨ (x ∉ ρ ++ fr ∧ φ[x]? = some p) := fun x p hp => by
    by_cases hm : x ∈ ρ ++ fr
    · obtain ⟨i, hi'⟩ := List.mem_iff_getElem?.1 hm
      exact .inl ⟨i, by rw [← gin i x hi']; exact hp, hi'⟩
    · exact .inr ⟨hm, by rw [← gout x hm]; exact hp⟩
  have gup : ∀ i, lv φl' i → lv φ' (gB (ρ ++ fr) φ.length i) ∧ φ'[gB (ρ ++ fr) φ.length i]? = φl'[i]? := fun i hlv => by
    obtain ⟨p, hp, hne⟩ := hlv
    obtain ⟨j, hj⟩ := ofLtL (xs := ρ ++ fr) (i := i) (by rw [← hcp]; exact get_lt hp)
    have e1 : gB (ρ ++ fr) φ.length i = j := by unfold gB; rw [hj]; rfl
    have e := gin i j hj
    rw [e1]
    exact ⟨⟨p, by rw [e]; exact hp, hne⟩, e⟩
  have gz : ∀ i, lv φ' (gB (ρ ++ fr) φ.length i) → gB (ρ ++ fr) 0 i = gB (ρ ++ fr) φ.length i := fun i ⟨p, hp, _⟩ => by
    unfold gB at hp ⊢
    cases hr : (ρ ++ fr)[i]? with
    | some j => rfl
    | none => rw [hr] at hp; have := get_lt hp; simp only [Option.getD_none, hlen'] at this; omega
  have nofr : ∀ j ∈ fr, ∀ p, φ[j]? = some p → p = .yet := fun j hj p hp => by rw [hyφ j hj] at hp; cases hp; rfl
  have notin : ∀ (j : Nat) (p : Pl) (b : Nat), φ[j]? = some p → j ∉ ρ → p.blk = some b → ∀ (i : Nat) (q : Pl), φl[i]? = some q → q.blk ≠ some b := fun j p b hj hjn hpb i q hq hqb => by
    obtain ⟨i', hr, hi'⟩ := old i q hq
    have := hi.apart i' j q p b hi' hj hqb hpb
    subst this
    exact hjn (List.mem_of_getElem? hr)
  have oldl : ∀ (i : Nat) (p : Pl) (b : Nat), φl'[i]? = some p → p.blk = some b → b < w.heap.size → ∃ (j : Nat) (q : Pl), j ∈ ρ ∧ φ[j]? = some q ∧ q.blk = some b := fun i p b hp hpb hlt => by
    have h0 : ∃ (i' : Nat) (q : Pl), φl[i']? = some q ∧ q.blk = some b := by
      cases p with
      | obj b' => cases hpb; obtain ⟨j, hj⟩ := he.objs i b hp hlt; exact ⟨j, _, hj, rfl⟩
      | tail b' e' =>
        cases hpb
        rcases he.tails i b e' hp hlt with ⟨j, e2, hj, _⟩ | ⟨j, hj⟩
        · exact ⟨j, _, hj, rfl⟩
        · exact ⟨j, _, hj, rfl⟩
      | free => cases hpb
      | dead => cases hpb
      | yet => cases hpb
    obtain ⟨i', q, hq, hqb⟩ := h0
    obtain ⟨j, hr, hj⟩ := old i' q hq
    exact ⟨j, q, List.mem_of_getElem? hr, hj, hqb⟩
  have hext : Ext φ w φ' w' := by
    refine ⟨he.size, by rw [hlen']; omega, fun x hx => ?_, fun b hlt hno => ?_, fun x b e2 hx c T fr' hc => ?_, fun x b hp hlt => ?_, fun x b e' hp hlt => ?_, he.io⟩
    · obtain ⟨p, hp, hne⟩ := hx
      by_cases hm : x ∈ ρ
      · obtain ⟨i, hi'⟩ := List.mem_iff_getElem?.1 hm
        have hi2 : (ρ ++ fr)[i]? = some x := by rw [List.getElem?_append_left (get_lt hi')]; exact hi'
        rw [gin i x hi2]
        have e : φl[i]? = φ[x]? := by rw [hφl, hi']; rfl
        have := he.old i ⟨p, by rw [e]; exact hp, hne⟩
        rw [e] at this
        exact this
      · have hmf : x ∉ fr := fun h => hne (nofr x h p hp)
        exact .inl (gout x (by simp [hm, hmf]))
    · exact he.keep b hlt fun i p hp => by obtain ⟨j, _, hj⟩ := old i p hp; exact hno j p hj
    · by_cases hm : x ∈ ρ
      · obtain ⟨i, hi'⟩ := List.mem_iff_getElem?.1 hm
        exact he.tail i b e2 (by rw [hφl, hi']; exact hx) c T fr' hc
      · refine ⟨c, ?_, rfl, fun _ _ => rfl⟩
        rw [he.keep b (heap_lt hc) (notin x _ b hx hm rfl)]; exact hc
    · rcases src x _ hp with ⟨i, hi', _⟩ | ⟨_, hx⟩
      · obtain ⟨j, hj⟩ := he.objs i b hi' hlt
        obtain ⟨j', _, hj'⟩ := old j _ hj
        exact ⟨j', hj'⟩
      · exact ⟨x, hx⟩
    · rcases src x _ hp with ⟨i, hi', _⟩ | ⟨_, hx⟩
      · rcases he.tails i b e' hi' hlt with ⟨j, e2, hj, hle⟩ | ⟨j, hj⟩
        · obtain ⟨j', _, hj'⟩ := old j _ hj
          exact .inl ⟨j', e2, hj', hle⟩
        · obtain ⟨j', _, hj'⟩ := old j _ hj
          exact .inr ⟨j', hj'⟩
      · exact .inl ⟨x, e', hx, Nat.le_refl _⟩
  have pup : ∀ b o, prot F' φl' w' b o → prot F φ' w' b o := fun b o ⟨h1, h2, h3, h4⟩ => by
    refine ⟨h1, fun x hx => ?_, fun x e2 hx => ?_, fun hF => h4 (.inl hF)⟩
    · rcases src x _ hx with ⟨i, hi', _⟩ | ⟨hjn, hx'⟩
      · exact h2 i hi'
      · exact h4 (.inr ⟨x, _, hx', fun hm => hjn (List.mem_append.2 (.inl hm)), .inl rfl⟩)
    · rcases src x _ hx with ⟨i, hi', _⟩ | ⟨hjn, hx'⟩
      · exact h3 i e2 hi'
      · by_cases hle : e2 ≤ o
        · exact absurd (.inr ⟨x, _, hx', fun hm => hjn (List.mem_append.2 (.inl hm)), .inr ⟨e2, rfl, hle⟩⟩) h4
        · omega
  have hmapl : (hl'.map (renO (gB (ρ ++ fr) 0))).length = (ρ ++ fr).length := by simp [hcl]
  have hbh : ∀ j ∈ ρ ++ fr, j < h.length := fun j hj => by rw [← hi.len]; exact hφ' j hj
  have hobj : ∀ (x : Nat) (o : Ho), (setAll h (ρ ++ fr) (hl'.map (renO (gB (ρ ++ fr) 0))))[x]? = some o → (∃ (i : Nat) (o' : Ho), hl'[i]? = some o' ∧ (ρ ++ fr)[i]? = some x ∧ o = renO (gB (ρ ++ fr) 0) o') ∨ (x ∉ ρ ++ fr ∧ h[x]? = some o) := fun x o ho => by
    by_cases hm : x ∈ ρ ++ fr
    · obtain ⟨i, hi'⟩ := List.mem_iff_getElem?.1 hm
      rw [setAll_at _ _ h hn hmapl.symm hbh i x hi', List.getElem?_map] at ho
      obtain ⟨o', ho', rfl⟩ := Option.map_eq_some_iff.1 ho
      exact .inl ⟨i, o', ho', hi', rfl⟩
    · rw [setAll_not _ _ h x hm] at ho
      exact .inr ⟨hm, ho⟩
  have inj : ∀ (i j x : Nat), (ρ ++ fr)[i]? = some x → (ρ ++ fr)[j]? = some x → i = j := fun i j x h1 h2 => (List.getElem?_inj (get_lt h1) hn).1 (by rw [h1, h2])
  have hinv : Inv F φ' w' (setAll h (ρ ++ fr) (hl'.map (renO (gB (ρ ++ fr) 0)))) := by
    refine ⟨?_, fun x p o hp ho => ?_, fun x y p q b hp hq hb1 hb2 => ?_, fun b o hF => Nat.lt_of_lt_of_le (hi.frB b o hF) he.size, fun x p b o hp hb1 hF => ?_, fun b y hy => ?_⟩
    · rw [hlen', setAll_len, hi.len]
    · rcases src x p hp with ⟨i, hi', hxi⟩ | ⟨hm, hx'⟩
      · rcases hobj _ o ho with ⟨i2, o', ho', e1, rfl⟩ | ⟨h2, _⟩
        · have := inj _ _ _ hxi e1
          subst this
          have hok := hil.ok i p o' hi' ho'
          refine ObOk.reg gz ?_
          cases p <;> cases o' <;> simp only [ObOk, renO] at hok ⊢
          · obtain ⟨arr, hr, hl, hd⟩ := hok
            refine ⟨arr, hr, by rw [renL_len]; exact hl, fun k v hv => ?_⟩
            rw [renL_get] at hv
            obtain ⟨y, hy, rfl⟩ := Option.map_eq_some_iff.1 hv
            obtain ⟨u, h1, h2, h3⟩ := hd k y hy
            exact ⟨u, h1, h2, h3.up pup gup⟩
          · obtain ⟨ents, clock, hr, hl, hd⟩ := hok
            refine ⟨ents, clock, hr, by simpa using hl, fun k m e hm he => ?_⟩
            rw [List.getElem?_map] at he
            obtain ⟨y, hy, rfl⟩ := Option.map_eq_some_iff.1 he
            obtain ⟨h1, h2⟩ := hd k m y hm hy
            exact ⟨h1, h2.up pup gup⟩
          · exact hok
        · exact absurd (List.mem_of_getElem? hxi) h2
      · rcases hobj x o ho with ⟨i2, o', ho', e1, rfl⟩ | ⟨h2, ho'⟩
        · exact absurd (List.mem_of_getElem? e1) hm
        · exact (hi.ok x p o hx' ho').ext hext fun b hpb => he.keep b (hi.lt hx' hpb) (notin x p b hx' (fun h => hm (List.mem_append.2 (.inl h))) hpb)
    · rcases src x p hp with ⟨i, hi', hxi⟩ | ⟨hm, hx'⟩ <;> rcases src y q hq with ⟨j, hj', hyj⟩ | ⟨hm2, hy'⟩
      · have := hil.apart i j p q b hi' hj' hb1 hb2
        subst this
        rw [hxi] at hyj; cases hyj; rfl
      · exfalso
        have hlt := hi.lt hy' hb2
        obtain ⟨j, q', hjm, hj, hqb⟩ := oldl i p b hi' hb1 hlt
        have := hi.apart j y q' q b hj hy' hqb hb2
        subst this; exact hm2 (List.mem_append.2 (.inl hjm))
      · exfalso
        have hlt := hi.lt hx' hb1
        obtain ⟨j', q', hjm, hj, hqb⟩ := oldl j q b hj' hb2 hlt
        have := hi.apart j' x q' p b hj hx' hqb hb1
        subst this; exact hm (List.mem_append.2 (.inl hjm))
      · exact hi.apart x y p q b hx' hy' hb1 hb2
    · rcases src x p hp with ⟨i, hi', _⟩ | ⟨hm, hx'⟩
      · exact hil.frO i p b o hi' hb1 (.inl hF)
      · exact hi.frO x p b o hx' hb1 hF
    · obtain ⟨h1, h2⟩ := hil.frK b y hy
      refine ⟨h1, fun x p hp => ?_⟩
      rcases src x p hp with ⟨i, hi', _⟩ | ⟨hm, hx'⟩
      · exact h2 i p hi'
      · exact (hi.frK b y hy).2 x p hx'
  exact ⟨u, φ', _, _, rfl, hext, hinv, (hdv.up pup gup).reg gz v rfl, hk v hl' hR⟩
end Go.Proofs.Ytfcbpdokilidgaa
