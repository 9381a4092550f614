/- Objects that are no more, and their numbers, are dropped; loops. No program stands here. -/
import Derived.Test.YtonllhjmoenckaaDoorVsM
namespace Go.Proofs.YtonllhjmoenckaaDoor
open Go Go.RowKit
set_option linter.unusedVariables false
set_option linter.unusedSimpArgs false
variable {F : Fr} {P : Program} {M : Oper → TypeId → Bool} {K : Nat → Obj → Prop} {n0 : Nat}

/-- The objects are numbered anew: number i for what had number ρ i; those that the function was given keep theirs. -/
theorem WPV.compact {c : Code} {Q : Exit → Sv → Prop} {tm tm' : List V} {h h' : List Ho} (ρ : List Nat) (hn : ρ.Nodup) (hpre : ∀ i, i < n0 → ρ[i]? = some i) (hlen : ρ.length = h'.length)
    (hpick : ∀ (B i j : Nat) (o : Ho), ρ[i]? = some j → h'[i]? = some o → h[j]? = some (renO (gB ρ B) o)) (hb : ∀ j ∈ ρ, j < h.length) (htm : ∀ B, tm = tm'.map (renV (gB ρ B)))
    (hw : WPV P K n0 c Q ⟨tm', h'⟩) : WPV P K n0 c Q ⟨tm, h⟩ := by
  intro F φ0 w0 h0 hK hn0 hi0 a w hr
  obtain ⟨φ, he, hi, ht, hdf⟩ := hr
  have hφ : ∀ j ∈ ρ, j < φ.length := fun j hj => by rw [hi.len]; exact hb j hj
  let φl : List Pl := ρ.map fun j => (φ[j]?).getD .dead
  have hφl : ∀ i : Nat, φl[i]? = (ρ[i]?).bind fun j => φ[j]? := fun i => by
    simp only [φl, List.getElem?_map]
    cases hr : ρ[i]? with
    | none => rfl
    | some j =>
      obtain ⟨p, hp⟩ := ofLtL (hφ j (List.mem_of_getElem? hr))
      simp [hp]
  have hlφ : φl.length = ρ.length := by simp [φl]
  have old : ∀ (i : Nat) (p : Pl), φl[i]? = some p → ∃ j, ρ[i]? = some j ∧ φ[j]? = some p := fun i p hp => by
    rw [hφl] at hp
    cases hr : ρ[i]? with
    | none => rw [hr] at hp; cases hp
    | some j => rw [hr] at hp; exact ⟨j, rfl, hp⟩
  have pdown : ∀ b o, prot F φ w b o → prot F φl w b o := fun b o ⟨h1, h2, h3, h4⟩ =>
    ⟨h1, fun i hi' => by obtain ⟨j, _, hj⟩ := old i _ hi'; exact h2 j hj, fun i e hi' => by obtain ⟨j, _, hj⟩ := old i _ hi'; exact h3 j e hj, h4⟩
  have gdown : ∀ i, lv φ (gB ρ φ.length i) → lv φl i ∧ φl[i]? = φ[gB ρ φ.length i]? := fun i ⟨p, hp, hne⟩ => by
    unfold gB at hp ⊢
    cases hr : ρ[i]? with
    | none => rw [hr] at hp; have := get_lt hp; simp only [Option.getD_none] at this; omega
    | some j =>
      rw [hr] at hp
      simp only [Option.getD_some] at hp ⊢
      have e : φl[i]? = φ[j]? := by rw [hφl, hr]; rfl
      exact ⟨⟨p, by rw [e]; exact hp, hne⟩, e⟩
  have h0l : φ0.length = n0 := by rw [hi0.len, hn0]
  have hle : n0 ≤ ρ.length := by
    cases n0 with
    | zero => exact Nat.zero_le _
    | succ n => exact get_lt (hpre n (by omega))
  refine hw F φ0 w0 h0 hK hn0 hi0 a w ⟨φl, ?_, ?_, ?_, hdf⟩
  · refine ⟨he.size, by rw [hlφ]; omega, fun i hx => ?_, he.keep, he.tail, fun i b hp hlt => ?_, fun i b e' hp hlt => ?_, he.io⟩
    · have hlt : i < n0 := by
        obtain ⟨p, hp, _⟩ := hx
        have := get_lt hp; omega
      rw [hφl, hpre i hlt]
      exact he.old i hx
    · obtain ⟨j, _, hj⟩ := old i _ hp
      exact he.objs j b hj hlt
    · obtain ⟨j, _, hj⟩ := old i _ hp
      exact he.tails j b e' hj hlt
  · refine ⟨by rw [hlφ]; exact hlen, fun i p o hp ho => ?_, fun i j p q b hp hq hb1 hb2 => ?_, hi.frB, fun i p b o hp hb1 hF => ?_, fun b x hx => ?_⟩
    · obtain ⟨j, hr, hj⟩ := old i p hp
      have hok := hi.ok j p _ hj (hpick φ.length i j o hr ho)
      cases p <;> cases o <;> simp only [ObOk, renO] at hok ⊢
      · obtain ⟨arr, hr, hz, hl, hd⟩ := hok
        refine ⟨arr, hr, hz, by rw [renL_len] at hl; exact hl, fun k v hv => ?_⟩
        obtain ⟨u, h1, h2, h3⟩ := hd k _ (by rw [renL_get, hv]; rfl)
        exact ⟨u, h1, h2, h3.down pdown gdown v rfl⟩
      · obtain ⟨ents, clock, hr, hl, hd⟩ := hok
        refine ⟨ents, clock, hr, by simpa [GM.mapV] using hl, fun k m e hm he => ?_⟩
        obtain ⟨h1, h2⟩ := hd k m ⟨e.born, e.key, renV _ e.val⟩ hm (by simp only [GM.mapV, List.getElem?_map, he]; rfl)
        exact ⟨h1, h2.down pdown gdown _ rfl⟩
      · exact hok
      · rename_i cs; cases cs with
        | nil => rfl
        | cons a l => simp [renL] at hok
    · obtain ⟨i', hr, hj⟩ := old i p hp
      obtain ⟨j', hr', hj'⟩ := old j q hq
      have := hi.apart i' j' p q b hj hj' hb1 hb2
      subst this
      exact (List.getElem?_inj (get_lt hr) hn).1 (by rw [hr, hr'])
    · obtain ⟨i', hr, hi'⟩ := old i p hp
      exact hi.frO i' p b o hi' hb1 hF
    · obtain ⟨h1, h2⟩ := hi.frK b x hx
      exact ⟨h1, fun i p hp => by obtain ⟨j, _, hj⟩ := old i p hp; exact h2 j p hj⟩
  · have e := htm φ.length
    refine ⟨by rw [ht.1, e]; simp, fun t r v hr hv => ?_⟩
    exact (ht.2 t r _ hr (by rw [e, List.getElem?_map, hv]; rfl)).down pdown gdown v rfl

theorem loopV {x : Code} {Q : Exit → Sv → Prop} {st : Sv} (h : WPV P K n0 x (thenV (WPV P K n0 (.loop x) Q) Q) st) : WPV P K n0 (.loop x) Q st := .loop h
/-- A loop whose state is told by a number that goes up to n, and by what stands in other slots. -/
theorem WPV.loopF {x : Code} {Q : Exit → Sv → Prop} (n : Nat) (I : Nat → (Nat → V) → Sv)
    (h : ∀ k e, k ≤ n → (∀ e', k < n → WPV P K n0 (.loop x) Q (I (k + 1) e')) → WPV P K n0 (.loop x) Q (I k e)) (k : Nat) (e : Nat → V) (hk : k ≤ n) : WPV P K n0 (.loop x) Q (I k e) := by
  have : ∀ d k e, k ≤ n → n - k = d → WPV P K n0 (.loop x) Q (I k e) := fun d => by
    induction d with
    | zero => exact fun k e hk hd => h k e hk fun e' hlt => absurd hlt (by omega)
    | succ d ih => exact fun k e hk hd => h k e hk fun e' hlt => ih (k + 1) e' hlt (by omega)
  exact this _ k e hk rfl
end Go.Proofs.YtonllhjmoenckaaDoor
