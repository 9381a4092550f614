/- Parts of the proofs, joined: ScrAw. -/
import Derived.Test.YtgfnpcmehnjopaaDoorB28
namespace Go.Proofs.YtgfnpcmehnjopaaDoor
open Go Go.RowKit
set_option linter.unusedVariables false
set_option linter.unusedSimpArgs false
variable {K : Nat → Obj → Prop}
inductive DW : D → D → Prop
  | same (x : D) : DW x x
  | nil (m : Nat) : DW (.sc (.slice none 0 0)) (.sl m [])
inductive DWL : List D → List D → Prop
  | nil : DWL [] []
  | cons {a b : D} {l m : List D} (h : DW a b) (hs : DWL l m) : DWL (a :: l) (b :: m)
inductive DWS : List (List D) → List (List D) → Prop
  | nil : DWS [] []
  | cons {a b : List D} {l m : List (List D)} (h : DWL a b) (hs : DWS l m) : DWS (a :: l) (b :: m)
theorem DWL.len {l m : List D} (h : DWL l m) : l.length = m.length := by
  induction h with
  | nil => rfl
  | cons _ _ ih => simp [ih]
theorem DWS.len {l m : List (List D)} (h : DWS l m) : l.length = m.length := by
  induction h with
  | nil => rfl
  | cons _ _ ih => simp [ih]
theorem DWL.get {l m : List D} (h : DWL l m) : ∀ (i : Nat) (y : D), m[i]? = some y → ∃ x, l[i]? = some x ∧ DW x y := by
  induction h with
  | nil => intro i y h; simp at h
  | cons h _ ih =>
    intro i y hy
    cases i with
    | zero => simp at hy; subst hy; exact ⟨_, rfl, h⟩
    | succ i => exact ih i y (by simpa using hy)
theorem DWS.get {l m : List (List D)} (h : DWS l m) : ∀ (i : Nat) (y : List D), m[i]? = some y → ∃ x, l[i]? = some x ∧ DWL x y := by
  induction h with
  | nil => intro i y h; simp at h
  | cons h _ ih =>
    intro i y hy
    cases i with
    | zero => simp at hy; subst hy; exact ⟨_, rfl, h⟩
    | succ i => exact ih i y (by simpa using hy)
theorem DenD.nils {F : Fr} {φ : List Pl} {w : World} {r : Value} {k : Nat} {es es' : List (List D)} (hx : DWS es es') (h : DenD F φ w r (.sl k es)) : DenD F φ w r (.sl k es') := by
  rcases h.slInv with ⟨a0, rfl, e⟩ | ⟨cap, b, off, c, rfl, hcap, hk, hc, hd⟩
  · subst e
    cases hx
    exact .nil
  · have hl := hx.len
    rw [hl] at hcap hc ⊢
    refine .sl c rfl hcap (fun i e' he' => ?_) hc fun i e' j x' he' hx' => ?_
    · obtain ⟨e, he, hw⟩ := hx.get i e' he'
      rw [← hw.len]; exact hk i e he
    · obtain ⟨e, he, hw⟩ := hx.get i e' he'
      obtain ⟨x, hx2, hw2⟩ := hw.get j x' hx'
      have := hd i e j x he hx2
      cases hw2 with
      | same => exact this
      | nil m =>
        generalize c i j = q at this
        cases this
        exact .nil
theorem Wk.fulls {k : Nat} {es es' : List (List D)} (hx : DWS es es') {vs vs' : List V} (h : Wk vs vs') : Wk (.full k es :: vs) (.sl k es' :: vs') := fun F φ w rs hd => by
  have hd := Wk.full (k := k) (es := es) h F φ w rs hd
  cases hd with
  | cons h1 h2 =>
    refine .cons ?_ h2
    cases h1 with
    | d h1 => exact .d (DenD.nils hx h1)
def spI : It := ⟨6, 0, 2, 9, 1, ⟨0, 0, 0⟩, [], []⟩
def cmI : It := ⟨0, 1, 0, 0, 0, ⟨3, 0, 0⟩, [⟨{ data := #[97] }, { data := #[120] }, false⟩, ⟨{ data := #[98] }, { data := #[] }, true⟩], []⟩
def crI : It := ⟨7, 3, 0, 0, 0, ⟨0, 0, 0⟩, [], [0, 300]⟩
def l0I : List It := [spI, cmI, crI]
def r0I : List (List UInt8) := [[6, 2, 9, 1], [0, 1, 6, 0, 0, 2, 1, 97, 2, 120, 1, 98, 0], [7, 3, 2, 0, 172, 2]]
abbrev e0I : List (List D) := [[.sc (.int .i64 6), .sc (.int .i64 0), .sc (.int .i64 2), .sc (.int .i64 9), .sc (.int .u32 1), .sc (.int .i64 0), .sc (.int .i64 0), .sc (.int .i64 0), .sc (.slice none 0 0), .sc (.slice none 0 0)], [.sc (.int .i64 0), .sc (.int .i64 1), .sc (.int .i64 0), .sc (.int .i64 0), .sc (.int .u32 0), .sc (.int .i64 3), .sc (.int .i64 0), .sc (.int .i64 0), .sl 3 [[.sc (.string { data := #[97] }), .sc (.string { data := #[120] }), .sc (.bool false)], [.sc (.string { data := #[98] }), .sc (.string { data := #[] }), .sc (.bool true)]], .sc (.slice none 0 0)], [.sc (.int .i64 7), .sc (.int .i64 3), .sc (.int .i64 0), .sc (.int .i64 0), .sc (.int .u32 0), .sc (.int .i64 0), .sc (.int .i64 0), .sc (.int .i64 0), .sc (.slice none 0 0), .sl 1 [[.sc (.int .i64 0)], [.sc (.int .i64 300)]]]]
theorem wk0 : DWS e0I (its l0I) :=
  .cons (.cons (.same _) (.cons (.same _) (.cons (.same _) (.cons (.same _) (.cons (.same _) (.cons (.same _) (.cons (.same _) (.cons (.same _) (.cons (.nil 3) (.cons (.nil 1) .nil))))))))))
  (.cons (.cons (.same _) (.cons (.same _) (.cons (.same _) (.cons (.same _) (.cons (.same _) (.cons (.same _) (.cons (.same _) (.cons (.same _) (.cons (.same _) (.cons (.nil 1) .nil))))))))))
  (.cons (.cons (.same _) (.cons (.same _) (.cons (.same _) (.cons (.same _) (.cons (.same _) (.cons (.same _) (.cons (.same _) (.cons (.same _) (.cons (.nil 3) (.cons (.same _) .nil)))))))))) .nil))
theorem l0_ok : ∀ x ∈ l0I, checkI x = 0 ∧ ItM x := by
  intro x hx
  rcases List.mem_cons.1 hx with rfl | hx
  · exact ⟨by decide +kernel, ⟨by decide, by decide⟩⟩
  rcases List.mem_cons.1 hx with rfl | hx
  · exact ⟨by decide +kernel, ⟨by decide, by decide⟩⟩
  rw [List.mem_singleton.1 hx]
  exact ⟨by decide +kernel, ⟨by decide, by decide⟩⟩
theorem l0_bytes : l0I.map bytesI = r0I := by decide +kernel
theorem r0_fits : Fits r0I := by
  intro p hp
  have : ∀ q ∈ r0I, q.length ≤ 8192 := by decide
  exact this p hp
theorem l0_put : putI l0I = (frow r0I, 0) := by
  unfold putI
  rw [if_neg (by decide), rowsI_of fun x hx => (l0_ok x hx).1, l0_bytes]
  dsimp only
  rw [if_neg (by simp)]
  unfold allF
  rw [allN_fits _ _ r0_fits, List.nil_append]
theorem r0_scan : scanF (frow r0I) = (r0I, (frow r0I).length, 0) := by
  have := scanF_frow r0I [] r0_fits (.inl rfl)
  rwa [List.append_nil, if_pos rfl] at this
theorem one_take {p : List UInt8} {e : Int} (hp : p.length ≤ 8192) (he : (readI p).2 = e) (h0 : e ≠ 0) : takeI (wrapF p).1 = ([], e) := by
  have := scanF_frow [p] [] (fun q hq => by rw [List.mem_singleton.1 hq]; exact hp) (.inl rfl)
  rw [List.append_nil, if_pos rfl, frow_cons, frow_nil, List.append_nil] at this
  unfold takeI
  rw [this]
  dsimp only
  rw [if_neg (by simp), if_neg (by simp)]
  unfold readsI
  rw [if_pos (by rw [he]; exact h0), he]
theorem len0 : LenI l0I := by
  intro x hx
  have hc := checkI_ok (l0_ok x hx).1
  have hw := wok_of hc.2.2.2.2.2.2.2.1
  have hk := hc.2.2.2.2.2.2.2.2.2.1
  omega
set_option maxRecDepth 100000 in
set_option maxHeartbeats 4000000 in
theorem awake22_s (hT : TT K) (hK : KT K) : Sp Tryd.prog K 10 [] [] fun u hh => u = .sc (.bool true) ∧ hh = [] := by
  have hPl : (frow r0I).length ≤ 9000 * r0I.length := sfrow_le r0I
  have hPl : (frow r0I).length ≤ 27000 := hPl
  obtain ⟨P, hP⟩ : ∃ P, frow r0I = P := ⟨_, rfl⟩
  have hput := l0_put
  have hscan := r0_scan
  rw [hP] at hput hscan hPl
  have htake := take_putI (fun x hx => (l0_ok x hx).2) hput
  have c1 : ∀ h, Sp Tryd.prog K 12 [.full 10 e0I] h fun u hh => u = .tup [.sl 1 (bs P), .sc (.int .i64 0)] ∧ hh = h := fun h => by
    have := Sp.lift (sputs_s hT hK l0I (by decide) (fun x hx => (l0_ok x hx).2) len0) (fun _ => rfl) (fun _ => rfl) h
    rw [hput] at this
    exact this.wk (Wk.fulls wk0 Wk.nil)
  have c2 : ∀ h, Sp Tryd.prog K 15 [.sl 1 (bs P)] h fun u hh => u = .tup [.sl 10 (its l0I), .sc (.int .i64 0)] ∧ hh = h := fun h => by
    have := Sp.lift (stake_s hT hK P (by omega)) (fun _ => rfl) (fun _ => rfl) h
    rwa [htake] at this
  have c3 : ∀ h, Sp Tryd.prog K 42 [.sl 1 (bs P)] h fun u hh => u = .tup [.sl 1 (rs [[6, 2, 9, 1], [0, 1, 6, 0, 0, 2, 1, 97, 2, 120, 1, 98, 0], [7, 3, 2, 0, 172, 2]]), .sc (.int .i64 (P.length : Int)), .sc (.int .i64 0)] ∧ hh = h := fun h => by
    have := scan_s hK P (by omega) h
    rwa [hscan] at this
  obtain ⟨f1, hf1⟩ : ∃ f, (wrapF [9]).1 = f := ⟨_, rfl⟩
  obtain ⟨f2, hf2⟩ : ∃ f, (wrapF [1, 3]).1 = f := ⟨_, rfl⟩
  have fl1 := wrapF_len [9]
  have fl2 := wrapF_len [1, 3]
  have w1 : wrapF [9] = (f1, 0) := by rw [← hf1]; exact wrapF_fit (by decide)
  have w2 : wrapF [1, 3] = (f2, 0) := by rw [← hf2]; exact wrapF_fit (by decide)
  have t1 := one_take (p := [9]) (e := 3) (by decide) (by decide +kernel) (by decide)
  have t2 := one_take (p := [1, 3]) (e := 9) (by decide) (by decide +kernel) (by decide)
  rw [hf1] at t1 fl1
  rw [hf2] at t2 fl2
  have c4 : ∀ h, Sp Tryd.prog K 23 [.sl 1 [[.sc (.int .u8 9)]]] h fun u hh => u = .tup [.sl 1 (bs f1), .sc (.int .i64 0)] ∧ hh = h := fun h => Sp.lift (wrap_e (K := K) hK (by decide) w1) (fun _ => rfl) (fun _ => rfl) h
  have c6 : ∀ h, Sp Tryd.prog K 23 [.sl 1 [[.sc (.int .u8 1)], [.sc (.int .u8 3)]]] h fun u hh => u = .tup [.sl 1 (bs f2), .sc (.int .i64 0)] ∧ hh = h := fun h => Sp.lift (wrap_e (K := K) hK (by decide) w2) (fun _ => rfl) (fun _ => rfl) h
  have c5 : ∀ h, Sp Tryd.prog K 15 [.sl 1 (bs f1)] h fun u hh => u = .tup [.sl 10 [], .sc (.int .i64 3)] ∧ hh = h := fun h => by
    have := Sp.lift (stake_s hT hK f1 (by omega)) (fun _ => rfl) (fun _ => rfl) h
    rwa [t1] at this
  have c7 : ∀ h, Sp Tryd.prog K 15 [.sl 1 (bs f2)] h fun u hh => u = .tup [.sl 10 [], .sc (.int .i64 9)] ∧ hh = h := fun h => by
    have := Sp.lift (stake_s hT hK f2 (by omega)) (fun _ => rfl) (fun _ => rfl) h
    rwa [t2] at this
  have c8 : ∀ h, Sp Tryd.prog K 15 [.sl 1 [[.sc (.int .u8 1)]]] h fun u hh => u = .tup [.sl 10 [], .sc (.int .i64 2)] ∧ hh = h := fun h => by
    have := Sp.lift (stake_s hT hK [1] (by decide)) (fun _ => rfl) (fun _ => rfl) h
    have e : takeI [1] = ([], 2) := by
      have e2 : (scanF [1]).2.2 = 2 := by decide +kernel
      unfold takeI
      rw [if_pos (by rw [e2]; decide), e2]
    rwa [e] at this
  have s1 : ∀ h, Sp Tryd.prog K 21 [.sl 1 (bs [6, 2, 9, 1]), .sl 1 [[.sc (.int .u8 6)], [.sc (.int .u8 2)], [.sc (.int .u8 9)], [.sc (.int .u8 1)]]] h fun u hh => u = .sc (.bool true) ∧ hh = h := fun h => fsame_t [6, 2, 9, 1] h
  have s2 : ∀ h, Sp Tryd.prog K 21 [.sl 1 (bs [0, 1, 6, 0, 0, 2, 1, 97, 2, 120, 1, 98, 0]), .sl 1 [[.sc (.int .u8 0)], [.sc (.int .u8 1)], [.sc (.int .u8 6)], [.sc (.int .u8 0)], [.sc (.int .u8 0)], [.sc (.int .u8 2)], [.sc (.int .u8 1)], [.sc (.int .u8 97)], [.sc (.int .u8 2)], [.sc (.int .u8 120)], [.sc (.int .u8 1)], [.sc (.int .u8 98)], [.sc (.int .u8 0)]]] h fun u hh => u = .sc (.bool true) ∧ hh = h := fun h => fsame_t [0, 1, 6, 0, 0, 2, 1, 97, 2, 120, 1, 98, 0] h
  have s3 : ∀ h, Sp Tryd.prog K 21 [.sl 1 (bs [7, 3, 2, 0, 172, 2]), .sl 1 [[.sc (.int .u8 7)], [.sc (.int .u8 3)], [.sc (.int .u8 2)], [.sc (.int .u8 0)], [.sc (.int .u8 172)], [.sc (.int .u8 2)]]] h fun u hh => u = .sc (.bool true) ∧ hh = h := fun h => fsame_t [7, 3, 2, 0, 172, 2] h
  have co := fun h => own22_s (K := K) l0I (by decide) h
  have co2 : ∀ h, Sp Tryd.prog K 14 [.full 10 e0I] h fun u hh => u = .sl 10 (its l0I) ∧ hh = h := fun h => (own22_s (K := K) l0I (by decide) h).wk (Wk.fulls wk0 Wk.nil)
  have cs := fun h => Sp.lift (rsame22_s (K := K) l0I (by decide) len0) (fun _ => rfl) (fun _ => rfl) h
  have k1 : ∀ h, Sp Tryd.prog K 17 [.agg [.sc (.int .i64 2), .sc (.int .i64 3), .sc (.int .i64 0), .sc (.int .i64 0), .sc (.int .u32 0), .sc (.int .i64 0), .sc (.int .i64 0), .sc (.int .i64 0), .sl 3 [], .sl 1 []]] h fun u hh => u = .sc (.int .i64 0) ∧ hh = h := fun h => by
    have := Sp.lift (scheck_s hT ⟨2, 3, 0, 0, 0, ⟨0, 0, 0⟩, [], []⟩ (by decide) (by decide)) (fun _ => rfl) (fun _ => rfl) h
    rwa [show checkI ⟨2, 3, 0, 0, 0, ⟨0, 0, 0⟩, [], []⟩ = 0 by decide +kernel] at this
  have k2 : ∀ h, Sp Tryd.prog K 17 [.agg [.sc (.int .i64 2), .sc (.int .i64 0), .sc (.int .i64 1), .sc (.int .i64 0), .sc (.int .u32 0), .sc (.int .i64 0), .sc (.int .i64 0), .sc (.int .i64 0), .sl 3 [], .sl 1 []]] h fun u hh => u = .sc (.int .i64 1) ∧ hh = h := fun h => by
    have := Sp.lift (scheck_s hT ⟨2, 0, 1, 0, 0, ⟨0, 0, 0⟩, [], []⟩ (by decide) (by decide)) (fun _ => rfl) (fun _ => rfl) h
    rwa [show checkI ⟨2, 0, 1, 0, 0, ⟨0, 0, 0⟩, [], []⟩ = 1 by decide +kernel] at this
  have k3 : ∀ h, Sp Tryd.prog K 19 [.agg [.sc (.int .i64 6), .sc (.int .i64 0), .sc (.int .i64 2), .sc (.int .i64 9), .sc (.int .u32 1), .sc (.int .i64 0), .sc (.int .i64 0), .sc (.int .i64 0), .sl 3 [], .sl 1 []], .agg [.sc (.int .i64 6), .sc (.int .i64 0), .sc (.int .i64 2), .sc (.int .i64 9), .sc (.int .u32 1), .sc (.int .i64 0), .sc (.int .i64 0), .sc (.int .i64 0), .sl 3 [], .sl 1 []]] h fun u hh => u = .sc (.bool true) ∧ hh = h := fun h => by
    have := Sp.lift (ssame_s (K := K) spI spI (by decide) (by decide)) (fun _ => rfl) (fun _ => rfl) h
    rwa [sameF_refl] at this
  have k4 : ∀ h, Sp Tryd.prog K 19 [.agg [.sc (.int .i64 6), .sc (.int .i64 0), .sc (.int .i64 2), .sc (.int .i64 9), .sc (.int .u32 1), .sc (.int .i64 0), .sc (.int .i64 0), .sc (.int .i64 0), .sl 3 [], .sl 1 []], .agg [.sc (.int .i64 7), .sc (.int .i64 3), .sc (.int .i64 0), .sc (.int .i64 0), .sc (.int .u32 0), .sc (.int .i64 0), .sc (.int .i64 0), .sc (.int .i64 0), .sl 3 [], .sl 1 [[.sc (.int .i64 0)], [.sc (.int .i64 300)]]]] h fun u hh => u = .sc (.bool false) ∧ hh = h := fun h => by
    have := Sp.lift (ssame_s (K := K) spI crI (by decide) (by decide)) (fun _ => rfl) (fun _ => rfl) h
    rwa [show sameF spI crI = false by decide +kernel] at this
  have hlen3 : (its l0I).length = 3 := rfl
  clear hput hscan htake t1 t2 w1 w2 hf1 hf2 hP
  generalize its l0I = L0 at *
  refine Sp.of_bodyE Tryd.func10 rfl ?_
  intro Q hQ
  simp only [List.replicate, List.length_cons, List.length_nil, Tryd.ntmps10, Nat.reduceAdd, Nat.reduceSub, List.cons_append, List.nil_append, go_sem]
  have hz : True := trivial
  have hy := yieldedV_eq
  have hL := @hlen3
  repeat' (first | ((with_reducible refine WPV.seqJ 12 ⟨[.sc (.bool false), .ptr 0 0, .ptr 1 0, .ptr 2 0, .any, .sc (.int .i64 0), .sl 10 L0, .sc (.int .i64 0), .sl 1 (rs [[6, 2, 9, 1], [0, 1, 6, 0, 0, 2, 1, 97, 2, 120, 1, 98, 0], [7, 3, 2, 0, 172, 2]]), .any, .any, .any, .any, .any, .sc (.int .i64 3), .any, .sc (.int .i64 9), .any, .sc (.int .i64 2), .any, .any, .any, .any, .any, .any, .any, .any, .any, .any, .any, .any, .any, .any, .any, .any, .any, .any, .any, .any, .any, .any, .any, .any, .any, .any, .any, .any, .any, .any, .any, .any, .any, .any, .any, .any, .any, .any, .any, .any, .any, .any, .any, .any, .any, .any, .any, .any, .any, .any, .any, .any, .any, .any, .any, .any, .any, .any, .any, .sc (.bool false), .any, .any, .any, .any, .any, .any, .any, .any, .any, .any, .any, .any, .any, .any, .any, .any, .any, .any, .any, .any, .any, .any, .any, .any, .any, .any, .any, .any, .any, .any, .any, .any, .any, .any, .any, .any, .any, .any, .any, .any, .any, .any, .any, .any, .any, .any, .any, .any, .any, .any, .any, .any, .any, .any, .any, .any, .any, .any, .any, .any, .any, .any, .any, .any, .any, .any, .any, .any, .any, .any], [.cells [.sc (.int .i64 6), .sc (.int .i64 0), .sc (.int .i64 2), .sc (.int .i64 9), .sc (.int .u32 1), .sc (.int .i64 0), .sc (.int .i64 0), .sc (.int .i64 0), .sc (.slice none 0 0), .sc (.slice none 0 0)], .cells [.sc (.int .i64 0), .sc (.int .i64 1), .sc (.int .i64 0), .sc (.int .i64 0), .sc (.int .u32 0), .sc (.int .i64 3), .sc (.int .i64 0), .sc (.int .i64 0), .sl 3 [[.sc (.string { data := #[97] }), .sc (.string { data := #[120] }), .sc (.bool false)], [.sc (.string { data := #[98] }), .sc (.string { data := #[] }), .sc (.bool true)]], .sc (.slice none 0 0)], .cells [.sc (.int .i64 7), .sc (.int .i64 3), .sc (.int .i64 0), .sc (.int .i64 0), .sc (.int .u32 0), .sc (.int .i64 0), .sc (.int .i64 0), .sc (.int .i64 0), .sc (.slice none 0 0), .sl 1 [[.sc (.int .i64 0)], [.sc (.int .i64 300)]]]]⟩ ?_ ?_); intro N hN) | (with_reducible refine WPV.seqJ 14 ⟨[.sc (.bool true), .any, .any, .any, .any, .any, .any, .any, .any, .any, .any, .any, .any, .any, .any, .any, .any, .any, .any, .any, .any, .any, .any, .any, .any, .any, .any, .any, .any, .any, .any, .any, .any, .any, .any, .any, .any, .any, .any, .any, .any, .any, .any, .any, .any, .any, .any, .any, .any, .any, .any, .any, .any, .any, .any, .any, .any, .any, .any, .any, .any, .any, .any, .any, .any, .any, .any, .any, .any, .any, .any, .any, .any, .any, .any, .any, .any, .any, .any, .any, .any, .any, .any, .any, .any, .any, .any, .any, .any, .any, .any, .any, .any, .any, .any, .any, .any, .any, .any, .any, .any, .any, .any, .any, .any, .any, .any, .any, .any, .any, .any, .any, .any, .any, .any, .any, .any, .any, .any, .any, .any, .any, .any, .any, .any, .any, .any, .any, .any, .any, .any, .any, .any, .any, .any, .any, .any, .any, .any, .any, .any, .any, .any, .any, .any, .any, .any, .any, .any], [.cells [.sc (.int .i64 6), .sc (.int .i64 0), .sc (.int .i64 2), .sc (.int .i64 9), .sc (.int .u32 1), .sc (.int .i64 0), .sc (.int .i64 0), .sc (.int .i64 0), .sc (.slice none 0 0), .sc (.slice none 0 0)], .cells [.sc (.int .i64 0), .sc (.int .i64 1), .sc (.int .i64 0), .sc (.int .i64 0), .sc (.int .u32 0), .sc (.int .i64 3), .sc (.int .i64 0), .sc (.int .i64 0), .sl 3 [[.sc (.string { data := #[97] }), .sc (.string { data := #[120] }), .sc (.bool false)], [.sc (.string { data := #[98] }), .sc (.string { data := #[] }), .sc (.bool true)]], .sc (.slice none 0 0)], .cells [.sc (.int .i64 7), .sc (.int .i64 3), .sc (.int .i64 0), .sc (.int .i64 0), .sc (.int .u32 0), .sc (.int .i64 0), .sc (.int .i64 0), .sc (.int .i64 0), .sc (.slice none 0 0), .sl 1 [[.sc (.int .i64 0)], [.sc (.int .i64 300)]]]]⟩ (fun N hN => WPV.desc jnZ (rc14_s s1 s2 s3 k1 k2 k3 k4 co co2 cs _ rfl N hN)) ?_) | exact jnZ | (refine WPV.seqK ?_; intro N hN) | refine gA ?_ | (refine gR (M := noM) ?_; intro N hN ops hy) | (refine gD (M := noM) ?_; intro N hN; have hy := yieldedV_eq) | (refine WPV.condK ?_; intro A hA B hB) | (refine here ?_; refine sN ?_) | refine Both.mk ?_ ?_ | ((with_reducible refine CallO.gd 12 ?_); refine CallO.toB Tryd.call12 (c1 _) ?_) | ((with_reducible refine CallO.gd 15 ?_); first | refine CallO.toB Tryd.call15 (c2 _) ?_ | refine CallO.toB Tryd.call15 (c5 _) ?_ | refine CallO.toB Tryd.call15 (c7 _) ?_ | refine CallO.toB Tryd.call15 (c8 _) ?_) | ((with_reducible refine CallO.gd 42 ?_); refine CallO.toB Tryd.call42 (c3 _) ?_) | ((with_reducible refine CallO.gd 23 ?_); first | refine CallO.toB Tryd.call23 (c4 _) ?_ | refine CallO.toB Tryd.call23 (c6 _) ?_) | ((with_reducible refine CallP.gd 12 ?_); refine CallP.toB Tryd.call12 (c1 _) ?_) | ((with_reducible refine CallP.gd 15 ?_); first | refine CallP.toB Tryd.call15 (c2 _) ?_ | refine CallP.toB Tryd.call15 (c5 _) ?_ | refine CallP.toB Tryd.call15 (c7 _) ?_ | refine CallP.toB Tryd.call15 (c8 _) ?_) | ((with_reducible refine CallP.gd 42 ?_); refine CallP.toB Tryd.call42 (c3 _) ?_) | ((with_reducible refine CallP.gd 23 ?_); first | refine CallP.toB Tryd.call23 (c4 _) ?_ | refine CallP.toB Tryd.call23 (c6 _) ?_) | (refine hN _ ?_; try clear hN N; try clear hy ops) | (refine hA ?_; clear hA A hB B; try simp only [hz]) | (refine hB ?_; clear hA A hB B; try simp only [hz]) | (refine gG ?_ ?_ <;> (intro hz; have h := nm hz; try (exfalso; omega)) <;> (have hz := nz hz; try subst hz)) | (rw [if_pos (show _ ∧ _ from ⟨by omega, by omega⟩)]; refine sN ?_) | refine gT ?_ | (clear hN N))
  all_goals (first | exact retZ hQ Tryd.results10 (Desc.re [] rfl) | exact retZN hQ Tryd.results10 (Desc.re [] rfl))
end Go.Proofs.YtgfnpcmehnjopaaDoor
