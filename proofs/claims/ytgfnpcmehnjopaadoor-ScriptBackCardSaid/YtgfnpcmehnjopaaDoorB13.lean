/- Parts of the proofs, joined: ScrO, VsUJ, ScrK, ScrL. -/
import Derived.Test.YtgfnpcmehnjopaaDoorB9
import Derived.Test.YtgfnpcmehnjopaaDoorB11
import Derived.Test.YtgfnpcmehnjopaaDoorB12
section
namespace Go.Proofs.YtgfnpcmehnjopaaDoor
open Go Go.RowKit
set_option linter.unusedVariables false
set_option linter.unusedSimpArgs false
theorem numR_ok {s s2 : Rst} {most n : Nat} {above : Int} (h : numR s most above = (n, s2)) : n ≤ most ∧ s2.1.length ≤ s.1.length := by
  unfold numR at h
  split at h
  · simp only [Prod.mk.injEq] at h
    obtain ⟨rfl, rfl⟩ := h
    exact ⟨Nat.zero_le _, Nat.le_refl _⟩
  split at h
  · simp only [Prod.mk.injEq] at h
    obtain ⟨rfl, rfl⟩ := h
    exact ⟨Nat.zero_le _, by dsimp only; rw [List.length_drop]; omega⟩
  · rename_i h1
    simp only [Prod.mk.injEq] at h
    obtain ⟨rfl, rfl⟩ := h
    refine ⟨?_, by dsimp only; rw [List.length_drop]; omega⟩
    split <;> omega
theorem textR_ok {s s2 : Rst} {n : Nat} {t : ByteArray} (h : textR s n = (t, s2)) : s2.1.length ≤ s.1.length := by
  unfold textR at h
  split at h
  · simp only [Prod.mk.injEq] at h
    obtain ⟨rfl, rfl⟩ := h
    exact Nat.le_refl _
  split at h
  · simp only [Prod.mk.injEq] at h
    obtain ⟨rfl, rfl⟩ := h
    exact Nat.le_refl _
  · simp only [Prod.mk.injEq] at h
    obtain ⟨rfl, rfl⟩ := h
    dsimp only; rw [List.length_drop]; omega
theorem sctake_le (p : Clk) (l : List UInt8) : (ctakeF p l).2.1 ≤ l.length := by
  by_cases h : (ctakeF p l).2.2 = 0
  · exact (ctake_ok h).2.2.2
  · unfold ctakeF at h ⊢
    split
    · exact Nat.zero_le _
    rename_i h0
    rw [if_neg h0] at h
    dsimp only at h ⊢
    split
    · exact Nat.zero_le _
    rename_i h1
    rw [if_neg h1] at h
    split
    · exact Nat.zero_le _
    rename_i h2
    rw [if_neg h2] at h
    split
    · exact Nat.zero_le _
    rename_i h3
    rw [if_neg h3] at h
    exact absurd rfl h
theorem numIf_e {p : Prop} [Decidable p] {s : Rst} {most : Nat} (h : s.2 ≠ 0) : numIf p s most = (0, s) := by
  unfold numIf numR
  by_cases hp : p
  · rw [if_pos hp, if_pos h]
  · rw [if_neg hp]
theorem readI_all {b : List UInt8} {d o n a m q j : Nat} {c : Clk} {w : List Wr} {k : List Int} {s0 s1 s2 s3 s4 s5 s6 s7 s8 s9 : Rst} (h0 : numR (b, 0) 8 3 = (d, s0))
    (h1 : numIf (d < 3 ∨ d = 7 ∨ d = 8) s0 4611686018427387903 = (o, s1)) (h2 : numIf (3 ≤ d ∧ d ≤ 6 ∨ d = 8) s1 4611686018427387903 = (n, s2)) (h3 : numIf (d = 6) s2 4611686018427387903 = (a, s3)) (h4 : numIf (d = 6) s3 4294967295 = (m, s4))
    (h5 : clockIf (d = 0) s4 = (c, s5)) (h6 : numIf (d = 0) s5 16 = (q, s6)) (h7 : writesR q s6 = (w, s7)) (h8 : numIf (d = 7) s7 4 = (j, s8)) (h9 : keptR j s8 = (k, s9)) :
    readI b = (⟨d, o, n, a, m, c, w, k⟩, endI ⟨d, o, n, a, m, c, w, k⟩ s9) := by
  by_cases hd : s0.2 = 0
  · exact readI_of h0 hd h1 h2 h3 h4 h5 h6 h7 h8 h9
  · have hd0 := numR_err (s := (b, 0)) (most := 8) (above := 3) (by decide) (by rw [h0]; exact hd)
    rw [h0] at hd0
    dsimp only at hd0
    subst hd0
    rw [numIf_e hd] at h1
    simp only [Prod.mk.injEq] at h1
    obtain ⟨rfl, rfl⟩ := h1
    rw [numIf_e hd] at h2
    simp only [Prod.mk.injEq] at h2
    obtain ⟨rfl, rfl⟩ := h2
    rw [numIf_e hd] at h3
    simp only [Prod.mk.injEq] at h3
    obtain ⟨rfl, rfl⟩ := h3
    rw [numIf_e hd] at h4
    simp only [Prod.mk.injEq] at h4
    obtain ⟨rfl, rfl⟩ := h4
    have h5' : clockIf ((0 : Nat) = 0) s0 = (⟨0, 0, 0⟩, s0) := by unfold clockIf clockR; rw [if_pos rfl, if_pos hd]
    rw [h5'] at h5
    simp only [Prod.mk.injEq] at h5
    obtain ⟨rfl, rfl⟩ := h5
    rw [numIf_e hd] at h6
    simp only [Prod.mk.injEq] at h6
    obtain ⟨rfl, rfl⟩ := h6
    unfold writesR at h7
    simp only [Prod.mk.injEq] at h7
    obtain ⟨rfl, rfl⟩ := h7
    rw [numIf_e hd] at h8
    simp only [Prod.mk.injEq] at h8
    obtain ⟨rfl, rfl⟩ := h8
    unfold keptR at h9
    simp only [Prod.mk.injEq] at h9
    obtain ⟨rfl, rfl⟩ := h9
    rw [readI_err h0 hd]
    unfold endI It.zero
    rw [if_pos hd]
    rfl
theorem numIf_ok {p : Prop} [Decidable p] {s s2 : Rst} {most n : Nat} (h : numIf p s most = (n, s2)) : n ≤ most ∧ s2.1.length ≤ s.1.length := by
  unfold numIf at h
  split at h
  · exact numR_ok h
  · simp only [Prod.mk.injEq] at h
    obtain ⟨rfl, rfl⟩ := h
    exact ⟨Nat.zero_le _, Nat.le_refl _⟩
theorem clockIf_ok {p : Prop} [Decidable p] {s s2 : Rst} {c : Clk} (h : clockIf p s = (c, s2)) : s2.1.length ≤ s.1.length := by
  unfold clockIf at h
  split at h
  · unfold clockR at h
    split at h
    · simp only [Prod.mk.injEq] at h
      obtain ⟨rfl, rfl⟩ := h
      exact Nat.le_refl _
    · simp only [Prod.mk.injEq] at h
      obtain ⟨rfl, rfl⟩ := h
      dsimp only; rw [List.length_drop]; omega
  · simp only [Prod.mk.injEq] at h
    obtain ⟨rfl, rfl⟩ := h
    exact Nat.le_refl _
theorem numIf_congr {p q : Prop} [Decidable p] [Decidable q] (h : p ↔ q) (s : Rst) (most : Nat) : numIf p s most = numIf q s most := by
  unfold numIf
  by_cases hp : p
  · rw [if_pos hp, if_pos (h.1 hp)]
  · rw [if_neg hp, if_neg (fun hq => hp (h.2 hq))]
theorem writeR_ok {s s2 : Rst} {a : Wr} (h : writeR s = (a, s2)) : s2.1.length ≤ s.1.length := by
  unfold writeR at h
  obtain ⟨k, s1, h1⟩ : ∃ k s1, numR s 64 1 = (k, s1) := ⟨_, _, rfl⟩
  rw [h1] at h
  dsimp only at h
  obtain ⟨t, s3, h2⟩ : ∃ t s2, textR s1 k = (t, s2) := ⟨_, _, rfl⟩
  rw [h2] at h
  dsimp only at h
  obtain ⟨n, s4, h3⟩ : ∃ n q, numR s3 257 1 = (n, q) := ⟨_, _, rfl⟩
  rw [h3] at h
  dsimp only at h
  have k2 := (numR_ok h1).2
  have k3 := textR_ok h2
  have k5 := (numR_ok h3).2
  split at h
  · simp only [Prod.mk.injEq] at h
    obtain ⟨rfl, rfl⟩ := h
    omega
  · obtain ⟨v, s5, h4⟩ : ∃ v s5, textR s4 (n - 1) = (v, s5) := ⟨_, _, rfl⟩
    rw [h4] at h
    have := textR_ok h4
    simp only [Prod.mk.injEq] at h
    obtain ⟨rfl, rfl⟩ := h
    omega
theorem writesR_s (n : Nat) {s s2 : Rst} {a : Wr} (h : writeR s = (a, s2)) : writesR (n + 1) s = (a :: (writesR n s2).1, (writesR n s2).2) := by
  show (_, _) = _
  rw [h]
theorem keptR_s (n : Nat) {s s2 : Rst} {a : Nat} (h : numR s 4611686018427387903 1 = (a, s2)) : keptR (n + 1) s = ((a : Int) :: (keptR n s2).1, (keptR n s2).2) := by
  show (_, _) = _
  rw [h]
structure WJ (n : Nat) (s0 : Rst) (i : Nat) (ws : List Wr) (s : Rst) : Prop where
  le : i ≤ n
  len : ws.length = i
  bl : s.1.length ≤ 1000000
  eq : writesR n s0 = (ws ++ (writesR (n - i) s).1, (writesR (n - i) s).2)
theorem WJ.nxt {n : Nat} {s0 s s2 : Rst} {i : Nat} {ws : List Wr} {a : Wr} (j : WJ n s0 i ws s) (hi : i < n) (h : writeR s = (a, s2)) : WJ n s0 (i + 1) (ws ++ [a]) s2 := by
  refine ⟨hi, by simp [j.len], Nat.le_trans (writeR_ok h) j.bl, ?_⟩
  rw [j.eq, show n - i = (n - (i + 1)) + 1 by omega, writesR_s _ h]
  simp
theorem WJ.fin {n : Nat} {s0 s : Rst} {i : Nat} {ws : List Wr} (j : WJ n s0 i ws s) (hi : ¬ i < n) : writesR n s0 = (ws, s) := by
  rw [j.eq, show n - i = 0 by omega]
  simp [writesR]
structure KJ (n : Nat) (s0 : Rst) (i : Nat) (ks : List Int) (s : Rst) : Prop where
  le : i ≤ n
  len : ks.length = i
  bl : s.1.length ≤ 1000000
  eq : keptR n s0 = (ks ++ (keptR (n - i) s).1, (keptR (n - i) s).2)
theorem KJ.nxt {n : Nat} {s0 s s2 : Rst} {i : Nat} {ks : List Int} {a : Nat} (j : KJ n s0 i ks s) (hi : i < n) (h : numR s 4611686018427387903 1 = (a, s2)) : KJ n s0 (i + 1) (ks ++ [(a : Int)]) s2 := by
  refine ⟨hi, by simp [j.len], Nat.le_trans (numR_ok h).2 j.bl, ?_⟩
  rw [j.eq, show n - i = (n - (i + 1)) + 1 by omega, keptR_s _ h]
  simp
theorem KJ.fin {n : Nat} {s0 s : Rst} {i : Nat} {ks : List Int} (j : KJ n s0 i ks s) (hi : ¬ i < n) : keptR n s0 = (ks, s) := by
  rw [j.eq, show n - i = 0 by omega]
  simp [keptR]
end Go.Proofs.YtgfnpcmehnjopaaDoor
end
section
namespace Go.Proofs.YtgfnpcmehnjopaaDoor
open Go Go.RowKit
set_option linter.unusedVariables false
set_option linter.unusedSimpArgs false
variable {P : Program} {K : Nat → Obj → Prop} {n0 : Nat} {M : Oper → TypeId → Bool}
def inB (i : Nat) : List Nat → Bool
  | [] => false
  | j :: r => if i = j then true else inB i r
theorem inB_nil (i : Nat) : inB i [] = false := rfl
theorem inB_cons (i j : Nat) (r : List Nat) : inB i (j :: r) = if i = j then true else inB i r := rfl
theorem inB_mem (i : Nat) : ∀ r : List Nat, inB i r = r.contains i
  | [] => rfl
  | j :: r => by
    unfold inB
    rw [inB_mem i r, List.contains_cons]
    by_cases h : i = j
    · subst h; simp
    · simp [h]
theorem thinW_z (ro : List Nat) : thinW ro [] = [] := rfl
theorem thinW_c (ro : List Nat) (i : Nat) (o : Ho) (l : List (Nat × Ho)) : thinW ro ((i, o) :: l) = if inB i ro = true then thinW ro l else (i, o) :: thinW ro l := by
  rw [inB_mem]
  by_cases h : ro.contains i = true
  · rw [if_pos h]; simp only [thinW, List.filter_cons]; rw [if_neg (by rw [h]; simp)]
  · rw [if_neg h]; simp only [thinW, List.filter_cons]; rw [if_pos (by simpa using h)]
def roB (ro : List Nat) (h : List Ho) : List (Nat × Ho) → Prop
  | [] => True
  | (i, o) :: l => (if inB i ro = true then h[i]? = some o else True) ∧ roB ro h l
theorem roB_nil (ro : List Nat) (h : List Ho) : roB ro h [] = True := rfl
theorem roB_cons (ro : List Nat) (h : List Ho) (i : Nat) (o : Ho) (l : List (Nat × Ho)) : roB ro h ((i, o) :: l) = ((if inB i ro = true then h[i]? = some o else True) ∧ roB ro h l) := rfl
theorem roB_ok {ro : List Nat} {h : List Ho} : ∀ l : List (Nat × Ho), roB ro h l → ∀ x ∈ l, x.1 ∈ ro → h[x.1]? = some x.2
  | (i, o) :: l, hl, x, hx, hr => by
    rcases List.mem_cons.1 hx with rfl | hx
    · have := hl.1
      rw [if_pos (by rw [inB_mem]; simpa using hr)] at this
      exact this
    · exact roB_ok l hl.2 x hx hr
attribute [go_sem] thinW_z thinW_c inB_nil inB_cons
section
variable {ops : Array Oper} {N : Sv → Prop} {l : List Oper} {v : V} {f : FuncId} {vs vs' : List V} {hl hl' h : List Ho} {tm : List V} {dst : Option Tmp} {ids : List (List Nat × List Nat)}
theorem CallP.frC (ro ρ : List Nat) (m : Nat) (he : Enters P f) (hs : Sp P K f vs' hl fun u hh => u = v ∧ hh = hl')
    (hr : drawV P M K ops N l (putV tm dst (renV (gB (ρ ++ frs h.length m) 0) v)) (wrs (padY h m) (thinW ro ((ρ ++ frs h.length m).zip (hl'.map (renO (gB (ρ ++ frs h.length m) 0)))))) ((ρ ++ frs h.length m, (thinW ro ((ρ ++ frs h.length m).zip (hl'.map (renO (gB (ρ ++ frs h.length m) 0))))).map (·.1)) :: ids))
    (hn : decide (ρ ++ frs h.length m).Nodup = true := by rfl) (hm : hl'.length = ρ.length + m := by rfl)
    (hp : ∀ B, pickH h ρ = some (hl.map (renO (gB (ρ ++ frs h.length m) B))) := by intro _; first | (simp only [go_sem, reduceCtorEq, Nat.reduceAdd, Nat.reduceSub, Nat.reduceMul, Nat.reduceLT, Nat.reduceLeDiff, Int.reduceLT, Int.reduceLE, Int.reduceEq, Int.reduceNe, Int.reduceAdd, Int.reduceSub, Int.reduceMul, Int.reduceToNat, Int.reduceNeg, Int.reducePow, Nat.reducePow, Nat.reduceEqDiff, Nat.reduceBEq, Int.reduceBEq, Int.reduceBNe, Int.reduceNegSucc]; (first | done | fail)) | rfl)
    (hw : ∀ B, Wk vs (vs'.map (renV (gB (ρ ++ frs h.length m) B))) := by intro _; ((repeat (first | exact Wk.nil | apply Wk.same | apply Wk.own | apply Wk.full | apply Wk.null | (refine Wk.agg (by ((repeat (first | exact Wk.nil | apply Wk.same | apply Wk.own | apply Wk.full | apply Wk.null)); (first | done | fail))) ?_))); (first | done | fail)))
    (hro : roB ro h ((ρ ++ frs h.length m).zip (hl'.map (renO (gB (ρ ++ frs h.length m) 0)))) := by first | (simp only [go_sem, reduceCtorEq, Nat.reduceAdd, Nat.reduceSub, Nat.reduceMul, Nat.reduceLT, Nat.reduceLeDiff, Int.reduceLT, Int.reduceLE, Int.reduceEq, Int.reduceNe, Int.reduceAdd, Int.reduceSub, Int.reduceMul, Int.reduceToNat, Int.reduceNeg, Int.reducePow, Nat.reducePow, Nat.reduceEqDiff, Nat.reduceBEq, Int.reduceBEq, Int.reduceBNe, Int.reduceNegSucc, roB_nil, roB_cons, inB_nil, inB_cons, if_true, if_false, and_true, true_and]; (first | done | fail)) | (repeat' (first | exact trivial | exact rfl | refine And.intro ?_ ?_))) :
    CallP P M K ops N l tm h ids dst f vs := CallP.frR ro ρ m he hs hn hm hp hw (roB_ok _ hro) hr
end
theorem WPV.drawG {id : Nat} {L : List Oper} {Q : Exit → Sv → Prop} {st : Sv} (hm : P.follows .mixedOrders = true) (hR : okR L.toArray = true)
    (h : ∀ N : Sv → Prop, (∀ st, Q .normal st → N st) → ∀ ops : Array Oper, (∀ tm j, yieldedV ops tm j = yieldL (L.map (·.dst)) tm j) → (∀ ids, okOrd L.toArray ids = true → okOrd ops ids = true) → drawV P M K ops N L st.tm st.h []) : WPV P K n0 (.region id L.toArray true) Q st :=
  .drawK (M := M) hm hR fun N hN => h N hN L.toArray (yieldL_eq L) fun _ h => h
theorem gDG {id : Nat} {L L2 : List Oper} {l2 : List (Option Tmp)} {Q : Exit → Sv → Prop} {st : Sv}
    (h : ∀ N : Sv → Prop, (∀ st, Q .normal st → N st) → ∀ ops : Array Oper, (∀ tm j, yieldedV ops tm j = yieldL l2 tm j) → (∀ ids, okOrd L.toArray ids = true → okOrd ops ids = true) → drawV P M K ops N L2 st.tm st.h [])
    (e1 : L = L2 := by first | (simp only [List.append]; rfl) | rfl) (e2 : L2.map (·.dst) = l2 := by first | (simp only [List.map_cons, List.map_nil]; rfl) | rfl) (hm : P.follows .mixedOrders = true := by kernel_rfl) (hR : okR L.toArray = true := by kernel_rfl) : WPV P K n0 (.region id L.toArray true) Q st := by
  subst e1; subst e2; exact .drawG (M := M) hm hR h
def regC (i : Nat) : Code → Option Code
  | .region id ops b => if id = i then some (.region id ops b) else none
  | .seq x y => match regC i x with
    | some c => some c
    | none => regC i y
  | .cond _ x y => match regC i x with
    | some c => some c
    | none => regC i y
  | .block _ x => regC i x
  | .loop x => regC i x
  | .scope x => regC i x
  | _ => none
structure Hd (p : Prop) : Prop where
  out : p
theorem mkI (p : Prop) : ∃ i : Int, Hd (i = 0 ↔ p) := by
  by_cases h : p
  · exact ⟨0, ⟨by simp [h]⟩⟩
  · exact ⟨1, ⟨by simp [h]⟩⟩
theorem nd_dd {p q : Prop} [Decidable p] [Decidable q] (h : ¬ p ↔ q) : (!decide p) = decide q := by
  rw [← decide_not]; exact decide_eq_decide.2 h
theorem WPV.seqJ (id : Nat) (I : Sv) {ops : Array Oper} {b : Bool} {y : Code} {Q : Exit → Sv → Prop} {st : Sv} (hx : ∀ N : Sv → Prop, (∀ st, Desc K n0 st I → N st) → WPV P K n0 (.region id ops b) (thenV N Q) st) (hI : WPV P K n0 y Q I) : WPV P K n0 (.seq (.region id ops b) y) Q st :=
  .seq (hx _ fun _ hd => .desc hd hI)
theorem WPV.seqJB (id : Nat) (I : Sv) {ops : Array Oper} {b : Bool} {x y : Code} {Q : Exit → Sv → Prop} {st : Sv} (hx : ∀ N : Sv → Prop, (∀ st, Desc K n0 st I → N st) → WPV P K n0 (.seq (.region id ops b) x) (thenV N Q) st) (hI : WPV P K n0 y Q I) : WPV P K n0 (.seq (.seq (.region id ops b) x) y) Q st :=
  .seq (hx _ fun _ hd => .desc hd hI)
theorem Wk.bl {a b : Bool} {vs vs' : List V} (h : a = b) (hs : Wk vs vs') : Wk (.sc (.bool a) :: vs) (.sc (.bool b) :: vs') := h ▸ Wk.same hs
theorem jnZ {st st3 : Sv} (hw : Wk st.tm st3.tm := by (repeat (first | exact Wk.nil | with_reducible apply Wk.any | with_reducible apply Wk.same | with_reducible apply Wk.own | with_reducible apply Wk.full | with_reducible apply Wk.null | refine Wk.bl (by first | exact dec_dec (by omega) | exact nd_dd (by omega) | exact dec_t (by omega) | exact dec_f (by omega) | (have hq := hj1.out; clear hj1; first | exact dec_dec (by omega) | exact nd_dd (by omega) | exact dec_t (by omega) | exact dec_f (by omega) | exact t_dec (by omega) | exact f_dec (by omega)) | (have hq := hj2.out; clear hj2; first | exact dec_dec (by omega) | exact nd_dd (by omega) | exact dec_t (by omega) | exact dec_f (by omega) | exact t_dec (by omega) | exact f_dec (by omega)) | (have hq := hj3.out; clear hj3; first | exact dec_dec (by omega) | exact nd_dd (by omega) | exact dec_t (by omega) | exact dec_f (by omega) | exact t_dec (by omega) | exact f_dec (by omega)) | (have hq := hj4.out; clear hj4; first | exact dec_dec (by omega) | exact nd_dd (by omega) | exact dec_t (by omega) | exact dec_f (by omega) | exact t_dec (by omega) | exact f_dec (by omega)) | (have hq := hj5.out; clear hj5; first | exact dec_dec (by omega) | exact nd_dd (by omega) | exact dec_t (by omega) | exact dec_f (by omega) | exact t_dec (by omega) | exact f_dec (by omega)) | (have hq := hj6.out; clear hj6; first | exact dec_dec (by omega) | exact nd_dd (by omega) | exact dec_t (by omega) | exact dec_f (by omega) | exact t_dec (by omega) | exact f_dec (by omega)) | (have hq := hj7.out; clear hj7; first | exact dec_dec (by omega) | exact nd_dd (by omega) | exact dec_t (by omega) | exact dec_f (by omega) | exact t_dec (by omega) | exact f_dec (by omega)) | (simp; omega)) ?_ | refine Wk.agg (by (repeat (first | exact Wk.nil | with_reducible apply Wk.any | with_reducible apply Wk.same | with_reducible apply Wk.own | with_reducible apply Wk.full | with_reducible apply Wk.null)); (first | done | fail)) ?_ | refine Wk.eqc (by first | rfl | (simp (disch := omega) only [if_pos, if_neg, hL, List.append_nil]; done) | (simp (disch := omega) only [if_pos, if_neg, hL, List.append_nil]; rfl) | ((try simp only [V.agg.injEq, V.tup.injEq, V.d.injEq, D.sc.injEq, D.sl.injEq, Value.int.injEq, Value.string.injEq, List.cons.injEq, true_and, and_true, Int.natCast_add, Int.cast_ofNat_Int, hL]); first | done | omega)) ?_)); (first | done | fail)) (hh : WkH st.h st3.h := by first | exact WkH.refl _ | ((repeat (first | exact WkH.nil | with_reducible apply WkH.same | (refine WkH.cells ?_ ?_; focus ((repeat (first | exact Wk.nil | with_reducible apply Wk.any | with_reducible apply Wk.same | with_reducible apply Wk.own | with_reducible apply Wk.full | with_reducible apply Wk.null | refine Wk.bl (by first | exact dec_dec (by omega) | exact nd_dd (by omega) | exact dec_t (by omega) | exact dec_f (by omega) | (have hq := hj1.out; clear hj1; first | exact dec_dec (by omega) | exact nd_dd (by omega) | exact dec_t (by omega) | exact dec_f (by omega) | exact t_dec (by omega) | exact f_dec (by omega)) | (have hq := hj2.out; clear hj2; first | exact dec_dec (by omega) | exact nd_dd (by omega) | exact dec_t (by omega) | exact dec_f (by omega) | exact t_dec (by omega) | exact f_dec (by omega)) | (have hq := hj3.out; clear hj3; first | exact dec_dec (by omega) | exact nd_dd (by omega) | exact dec_t (by omega) | exact dec_f (by omega) | exact t_dec (by omega) | exact f_dec (by omega)) | (have hq := hj4.out; clear hj4; first | exact dec_dec (by omega) | exact nd_dd (by omega) | exact dec_t (by omega) | exact dec_f (by omega) | exact t_dec (by omega) | exact f_dec (by omega)) | (have hq := hj5.out; clear hj5; first | exact dec_dec (by omega) | exact nd_dd (by omega) | exact dec_t (by omega) | exact dec_f (by omega) | exact t_dec (by omega) | exact f_dec (by omega)) | (have hq := hj6.out; clear hj6; first | exact dec_dec (by omega) | exact nd_dd (by omega) | exact dec_t (by omega) | exact dec_f (by omega) | exact t_dec (by omega) | exact f_dec (by omega)) | (have hq := hj7.out; clear hj7; first | exact dec_dec (by omega) | exact nd_dd (by omega) | exact dec_t (by omega) | exact dec_f (by omega) | exact t_dec (by omega) | exact f_dec (by omega)) | (simp; omega)) ?_ | refine Wk.agg (by (repeat (first | exact Wk.nil | with_reducible apply Wk.any | with_reducible apply Wk.same | with_reducible apply Wk.own | with_reducible apply Wk.full | with_reducible apply Wk.null)); (first | done | fail)) ?_ | refine Wk.eqc (by first | rfl | (simp (disch := omega) only [if_pos, if_neg, hL, List.append_nil]; done) | (simp (disch := omega) only [if_pos, if_neg, hL, List.append_nil]; rfl) | ((try simp only [V.agg.injEq, V.tup.injEq, V.d.injEq, D.sc.injEq, D.sl.injEq, Value.int.injEq, Value.string.injEq, List.cons.injEq, true_and, and_true, Int.natCast_add, Int.cast_ofNat_Int, hL]); first | done | omega)) ?_)); (first | done | fail))))); (first | done | fail))) : Desc K n0 st st3 := Desc.weak hw hh
theorem jnR {st st3 : Sv} (hw : Wk st.tm st3.tm := by (try simp only [go_sem, reduceCtorEq, Nat.reduceAdd, Nat.reduceSub, Nat.reduceMul, Nat.reduceLT, Nat.reduceLeDiff, Int.reduceLT, Int.reduceLE, Int.reduceEq, Int.reduceNe, Int.reduceAdd, Int.reduceSub, Int.reduceMul, Int.reduceToNat, Int.reduceNeg, Int.reducePow, Nat.reducePow, Nat.reduceEqDiff, Nat.reduceBEq, Int.reduceBEq, Int.reduceBNe, Int.reduceNegSucc, hL]); (repeat (first | exact Wk.nil | with_reducible apply Wk.any | with_reducible apply Wk.same | with_reducible apply Wk.own | with_reducible apply Wk.full | with_reducible apply Wk.null | refine Wk.bl (by first | exact dec_dec (by omega) | exact nd_dd (by omega) | exact dec_t (by omega) | exact dec_f (by omega) | (have hq := hj1.out; clear hj1; first | exact dec_dec (by omega) | exact nd_dd (by omega) | exact dec_t (by omega) | exact dec_f (by omega) | exact t_dec (by omega) | exact f_dec (by omega)) | (have hq := hj2.out; clear hj2; first | exact dec_dec (by omega) | exact nd_dd (by omega) | exact dec_t (by omega) | exact dec_f (by omega) | exact t_dec (by omega) | exact f_dec (by omega)) | (have hq := hj3.out; clear hj3; first | exact dec_dec (by omega) | exact nd_dd (by omega) | exact dec_t (by omega) | exact dec_f (by omega) | exact t_dec (by omega) | exact f_dec (by omega)) | (have hq := hj4.out; clear hj4; first | exact dec_dec (by omega) | exact nd_dd (by omega) | exact dec_t (by omega) | exact dec_f (by omega) | exact t_dec (by omega) | exact f_dec (by omega)) | (have hq := hj5.out; clear hj5; first | exact dec_dec (by omega) | exact nd_dd (by omega) | exact dec_t (by omega) | exact dec_f (by omega) | exact t_dec (by omega) | exact f_dec (by omega)) | (have hq := hj6.out; clear hj6; first | exact dec_dec (by omega) | exact nd_dd (by omega) | exact dec_t (by omega) | exact dec_f (by omega) | exact t_dec (by omega) | exact f_dec (by omega)) | (have hq := hj7.out; clear hj7; first | exact dec_dec (by omega) | exact nd_dd (by omega) | exact dec_t (by omega) | exact dec_f (by omega) | exact t_dec (by omega) | exact f_dec (by omega)) | (simp; omega)) ?_ | refine Wk.agg (by (repeat (first | exact Wk.nil | with_reducible apply Wk.any | with_reducible apply Wk.same | with_reducible apply Wk.own | with_reducible apply Wk.full | with_reducible apply Wk.null)); (first | done | fail)) ?_ | refine Wk.eqc (by first | rfl | (simp (disch := omega) only [if_pos, if_neg, hL, List.append_nil]; done) | (simp (disch := omega) only [if_pos, if_neg, hL, List.append_nil]; rfl) | ((try simp only [V.agg.injEq, V.tup.injEq, V.d.injEq, D.sc.injEq, D.sl.injEq, Value.int.injEq, Value.string.injEq, List.cons.injEq, true_and, and_true, Int.natCast_add, Int.cast_ofNat_Int, hL]); first | done | omega)) ?_)); (first | done | fail)) (hh : WkH st.h st3.h := by (try simp only [go_sem, reduceCtorEq, Nat.reduceAdd, Nat.reduceSub, Nat.reduceMul, Nat.reduceLT, Nat.reduceLeDiff, Int.reduceLT, Int.reduceLE, Int.reduceEq, Int.reduceNe, Int.reduceAdd, Int.reduceSub, Int.reduceMul, Int.reduceToNat, Int.reduceNeg, Int.reducePow, Nat.reducePow, Nat.reduceEqDiff, Nat.reduceBEq, Int.reduceBEq, Int.reduceBNe, Int.reduceNegSucc, hL]); first | exact WkH.refl _ | ((repeat (first | exact WkH.nil | with_reducible apply WkH.same | (refine WkH.cells ?_ ?_; focus ((repeat (first | exact Wk.nil | with_reducible apply Wk.any | with_reducible apply Wk.same | with_reducible apply Wk.own | with_reducible apply Wk.full | with_reducible apply Wk.null | refine Wk.bl (by first | exact dec_dec (by omega) | exact nd_dd (by omega) | exact dec_t (by omega) | exact dec_f (by omega) | (have hq := hj1.out; clear hj1; first | exact dec_dec (by omega) | exact nd_dd (by omega) | exact dec_t (by omega) | exact dec_f (by omega) | exact t_dec (by omega) | exact f_dec (by omega)) | (have hq := hj2.out; clear hj2; first | exact dec_dec (by omega) | exact nd_dd (by omega) | exact dec_t (by omega) | exact dec_f (by omega) | exact t_dec (by omega) | exact f_dec (by omega)) | (have hq := hj3.out; clear hj3; first | exact dec_dec (by omega) | exact nd_dd (by omega) | exact dec_t (by omega) | exact dec_f (by omega) | exact t_dec (by omega) | exact f_dec (by omega)) | (have hq := hj4.out; clear hj4; first | exact dec_dec (by omega) | exact nd_dd (by omega) | exact dec_t (by omega) | exact dec_f (by omega) | exact t_dec (by omega) | exact f_dec (by omega)) | (have hq := hj5.out; clear hj5; first | exact dec_dec (by omega) | exact nd_dd (by omega) | exact dec_t (by omega) | exact dec_f (by omega) | exact t_dec (by omega) | exact f_dec (by omega)) | (have hq := hj6.out; clear hj6; first | exact dec_dec (by omega) | exact nd_dd (by omega) | exact dec_t (by omega) | exact dec_f (by omega) | exact t_dec (by omega) | exact f_dec (by omega)) | (have hq := hj7.out; clear hj7; first | exact dec_dec (by omega) | exact nd_dd (by omega) | exact dec_t (by omega) | exact dec_f (by omega) | exact t_dec (by omega) | exact f_dec (by omega)) | (simp; omega)) ?_ | refine Wk.agg (by (repeat (first | exact Wk.nil | with_reducible apply Wk.any | with_reducible apply Wk.same | with_reducible apply Wk.own | with_reducible apply Wk.full | with_reducible apply Wk.null)); (first | done | fail)) ?_ | refine Wk.eqc (by first | rfl | (simp (disch := omega) only [if_pos, if_neg, hL, List.append_nil]; done) | (simp (disch := omega) only [if_pos, if_neg, hL, List.append_nil]; rfl) | ((try simp only [V.agg.injEq, V.tup.injEq, V.d.injEq, D.sc.injEq, D.sl.injEq, Value.int.injEq, Value.string.injEq, List.cons.injEq, true_and, and_true, Int.natCast_add, Int.cast_ofNat_Int, hL]); first | done | omega)) ?_)); (first | done | fail))))); (first | done | fail))) : Desc K n0 st st3 := Desc.weak hw hh
end Go.Proofs.YtgfnpcmehnjopaaDoor
end
section
namespace Go.Proofs.YtgfnpcmehnjopaaDoor
open Go Go.RowKit
set_option linter.unusedVariables false
set_option linter.unusedSimpArgs false
variable {K : Nat → Obj → Prop}
abbrev rdP (s : Rst) : Ho := .cells [.sl 1 (bs s.1), .sc (.int .i64 s.2)]
set_option maxRecDepth 100000 in
set_option maxHeartbeats 1000000 in
theorem snum_x (b : List UInt8) (most : Nat) (above : Int) {p : UInt64} {m : Nat} {er : Int} (ht : tk b = (p, m, er)) (hm : m ≤ b.length) (hl : b.length ≤ 1000000000) (hb : most < 9223372036854775808) (ha : above ≠ 0) :
    Sp Tryd.prog K 86 [.ptr 0 0, .sc (.int .u64 (most : Int)), .sc (.int .i64 above)] [rdP (b, 0)] fun u hh =>
      u = .sc (.int .i64 (if er = 0 ∧ (p.toNat : Int) ≤ most then (p.toNat : Int) else 0)) ∧ hh = [rdP (b.drop m, if er = 0 ∧ (most : Int) < p.toNat then above else er)] := by
  have hp := p.toNat_lt
  refine Sp.of_bodyE Tryd.func86 rfl ?_
  intro Q hQ
  simp only [List.replicate, List.length_cons, List.length_nil, Tryd.ntmps86, Nat.reduceAdd, Nat.reduceSub, List.cons_append, List.nil_append, go_sem]
  have hz : True := trivial
  have hy := yieldedV_eq
  have hL := True.intro
  repeat' (first | (refine WPV.seqK ?_; intro N hN) | refine gA ?_ | (refine gR (M := noM) ?_; intro N hN ops hy) | (refine gD (M := noM) ?_; intro N hN; have hy := yieldedV_eq) | (refine WPV.condK ?_; intro A hA B hB) | (refine here ?_; refine sS ?_) | refine Both.mk ?_ ?_ | ((with_reducible refine CallO.gd 77 ?_); refine CallO.toB Tryd.call77 (vtake_s ht hl _) ?_) | ((with_reducible refine CallP.gd 77 ?_); refine CallP.toB Tryd.call77 (vtake_s ht hl _) ?_) | (refine hN _ ?_; try clear hN N; try clear hy ops) | (refine hA ?_; clear hA A hB B; try simp only [hz]) | (refine hB ?_; clear hA A hB B; try simp only [hz]) | (refine gG ?_ ?_ <;> (intro hz; have h := nm hz; try (exfalso; omega)) <;> (have hz := nz hz; try subst hz)) | (rw [if_pos (show _ ∧ _ from ⟨by omega, by omega⟩)]; refine sS ?_) | refine gT ?_ | (clear hN N))
  all_goals (first | exact retZ hQ Tryd.results86 (Desc.re [some 0] rfl) | exact retZN hQ Tryd.results86 (Desc.re [some 0] rfl))
set_option maxRecDepth 100000 in
theorem snum_e (s : Rst) (most : Nat) (above : Int) (he : s.2 ≠ 0) :
    Sp Tryd.prog K 86 [.ptr 0 0, .sc (.int .u64 (most : Int)), .sc (.int .i64 above)] [rdP s] fun u hh => u = .sc (.int .i64 0) ∧ hh = [rdP s] := by
  refine Sp.of_bodyE Tryd.func86 rfl ?_
  intro Q hQ
  simp only [List.replicate, List.length_cons, List.length_nil, Tryd.ntmps86, Nat.reduceAdd, Nat.reduceSub, List.cons_append, List.nil_append, go_sem]
  have hz : True := trivial
  have hy := yieldedV_eq
  have hL := True.intro
  repeat' (first | (refine WPV.seqK ?_; intro N hN) | refine gA ?_ | (refine gR (M := noM) ?_; intro N hN ops hy) | (refine gD (M := noM) ?_; intro N hN; have hy := yieldedV_eq) | (refine WPV.condK ?_; intro A hA B hB) | (refine here ?_; refine sS ?_) | refine Both.mk ?_ ?_ | (refine hN _ ?_; try clear hN N; try clear hy ops) | (refine hA ?_; clear hA A hB B; try simp only [hz]) | (refine hB ?_; clear hA A hB B; try simp only [hz]) | (refine gG ?_ ?_ <;> (intro hz; have h := nm hz; try (exfalso; omega)) <;> (have hz := nz hz; try subst hz)) | (rw [if_pos (show _ ∧ _ from ⟨by omega, by omega⟩)]; refine sS ?_) | refine gT ?_ | (clear hN N))
  all_goals (first | exact retZ hQ Tryd.results86 (Desc.re [some 0] rfl) | exact retZN hQ Tryd.results86 (Desc.re [some 0] rfl))
theorem snum_s {s s2 : Rst} {most n : Nat} {above : Int} (h : numR s most above = (n, s2)) (hl : s.1.length ≤ 1000000000) (hb : most < 9223372036854775808) (ha : above ≠ 0) :
    Sp Tryd.prog K 86 [.ptr 0 0, .sc (.int .u64 (most : Int)), .sc (.int .i64 above)] [rdP s] fun u hh => u = .sc (.int .i64 (n : Int)) ∧ hh = [rdP s2] := by
  obtain ⟨b, e⟩ := s
  unfold numR at h
  dsimp only at h hl
  by_cases h0 : e = 0
  · subst h0
    rw [if_neg (by simp)] at h
    obtain ⟨p, m, er, ht⟩ : ∃ p m er, tk b = (p, m, er) := ⟨_, _, _, rfl⟩
    have hm := tk_le b
    rw [ht] at hm h
    have c := snum_x (K := K) b most above ht hm hl hb ha
    dsimp only at h
    split at h
    · rename_i h1
      simp only [Prod.mk.injEq] at h
      obtain ⟨rfl, rfl⟩ := h
      rwa [if_neg (by omega), if_pos (by omega)] at c
    · rename_i h1
      simp only [Prod.mk.injEq] at h
      obtain ⟨rfl, rfl⟩ := h
      rw [if_neg (show ¬ (er = 0 ∧ (most : Int) < p.toNat) by omega)] at c
      by_cases h2 : er = 0
      · rw [if_pos (by omega)] at c
        rw [if_neg (by omega)]
        exact c
      · rw [if_neg (by omega)] at c
        rw [if_pos h2]
        exact c
  · rw [if_pos h0] at h
    simp only [Prod.mk.injEq] at h
    obtain ⟨rfl, rfl⟩ := h
    exact snum_e (b, e) most above h0
set_option maxRecDepth 100000 in
set_option maxHeartbeats 1000000 in
theorem stxt_x (b : List UInt8) (e : Int) (n : Nat) (hl : b.length ≤ 1000000000) (hn : n ≤ 1000) :
    Sp Tryd.prog K 129 [.ptr 0 0, .sc (.int .i64 (n : Int))] [rdP (b, e)] fun u hh =>
      u = .sc (.string (if e = 0 ∧ n ≤ b.length then ⟨(b.take n).toArray⟩ else ⟨#[]⟩)) ∧ hh = [.cells [.sl 1 (bs (if e = 0 ∧ n ≤ b.length then b.drop n else b)), .sc (.int .i64 (if e = 0 ∧ b.length < n then 2 else e))]] := by
  have hs := True.intro
  refine Sp.of_bodyE Tryd.func129 rfl ?_
  intro Q hQ
  simp only [List.replicate, List.length_cons, List.length_nil, Tryd.ntmps129, Nat.reduceAdd, Nat.reduceSub, List.cons_append, List.nil_append, go_sem]
  have hz : True := trivial
  have hy := yieldedV_eq
  have hL := And.intro @bs_unbs (@hs)
  repeat' (first | (refine WPV.seqK ?_; intro N hN) | refine gA ?_ | (refine gR (M := noM) ?_; intro N hN ops hy) | (refine gD (M := noM) ?_; intro N hN; have hy := yieldedV_eq) | (refine WPV.condK ?_; intro A hA B hB) | (refine here ?_; refine sS ?_) | refine Both.mk ?_ ?_ | (refine hN _ ?_; try clear hN N; try clear hy ops) | (refine hA ?_; clear hA A hB B; try simp only [hz]) | (refine hB ?_; clear hA A hB B; try simp only [hz]) | (refine gG ?_ ?_ <;> (intro hz; have h := nm hz; try (exfalso; omega)) <;> (have hz := nz hz; try subst hz)) | (rw [if_pos (show _ ∧ _ from ⟨by omega, by omega⟩)]; refine sS ?_) | refine gT ?_ | (clear hN N))
  all_goals (first | exact retZ hQ Tryd.results129 (Desc.re [some 0] rfl) | exact retZN hQ Tryd.results129 (Desc.re [some 0] rfl))
theorem stxt_s {s s2 : Rst} {n : Nat} {t : ByteArray} (h : textR s n = (t, s2)) (hl : s.1.length ≤ 1000000000) (hn : n ≤ 1000) (x : Int) (hx : x = (n : Int)) :
    Sp Tryd.prog K 129 [.ptr 0 0, .sc (.int .i64 x)] [rdP s] fun u hh => u = .sc (.string t) ∧ hh = [rdP s2] := by
  subst hx
  obtain ⟨b, e⟩ := s
  have c := stxt_x (K := K) b e n hl hn
  unfold textR at h
  dsimp only at h hl
  split at h
  · rename_i h0
    simp only [Prod.mk.injEq] at h
    obtain ⟨rfl, rfl⟩ := h
    rwa [if_neg (fun h => h0 h.1), if_neg (fun h => h0 h.1), if_neg (fun h => h0 h.1)] at c
  rename_i h0
  have h0 := Decidable.not_not.1 h0
  split at h
  · rename_i h1
    simp only [Prod.mk.injEq] at h
    obtain ⟨rfl, rfl⟩ := h
    rwa [if_neg (by omega), if_neg (by omega), if_pos ⟨h0, h1⟩] at c
  · rename_i h1
    simp only [Prod.mk.injEq] at h
    obtain ⟨rfl, rfl⟩ := h
    subst h0
    rw [if_pos ⟨rfl, by omega⟩, if_pos ⟨rfl, by omega⟩, if_neg (by omega)] at c
    exact c
set_option maxRecDepth 100000 in
set_option maxHeartbeats 1000000 in
theorem sclk_s {s s2 : Rst} {c : Clk} (h : clockR s = (c, s2)) (hl : s.1.length ≤ 1000000000) :
    Sp Tryd.prog K 88 [.ptr 0 0] [rdP s] fun u hh => u = clkV c ∧ hh = [rdP s2] := by
  obtain ⟨b, e⟩ := s
  unfold clockR at h
  dsimp only at h hl
  by_cases h0 : e = 0
  · subst h0
    rw [if_neg (by simp)] at h
    have ct := fun h => ctake_s (K := K) ⟨0, 0, 0⟩ b hl h
    obtain ⟨⟨x, y, z⟩, m, er, ht⟩ : ∃ c m er, ctakeF ⟨0, 0, 0⟩ b = (c, m, er) := ⟨_, _, _, rfl⟩
    rw [ht] at h ct
    have hm : m ≤ b.length := by
      have := sctake_le ⟨0, 0, 0⟩ b
      rwa [ht] at this
    simp only [Prod.mk.injEq] at h
    obtain ⟨rfl, rfl⟩ := h
    dsimp only [clkV] at ct
    refine Sp.of_bodyE Tryd.func88 rfl ?_
    intro Q hQ
    simp only [List.replicate, List.length_cons, List.length_nil, Tryd.ntmps88, Nat.reduceAdd, Nat.reduceSub, List.cons_append, List.nil_append, go_sem]
    have hz : True := trivial
    have hy := yieldedV_eq
    have hL := True.intro
    repeat' (first | (refine WPV.seqK ?_; intro N hN) | refine gA ?_ | (refine gR (M := noM) ?_; intro N hN ops hy) | (refine gD (M := noM) ?_; intro N hN; have hy := yieldedV_eq) | (refine WPV.condK ?_; intro A hA B hB) | (refine here ?_; refine sS ?_) | refine Both.mk ?_ ?_ | ((with_reducible refine CallO.gd 104 ?_); refine CallO.toB Tryd.call104 (ct _) ?_) | ((with_reducible refine CallP.gd 104 ?_); refine CallP.toB Tryd.call104 (ct _) ?_) | (refine hN _ ?_; try clear hN N; try clear hy ops) | (refine hA ?_; clear hA A hB B; try simp only [hz]) | (refine hB ?_; clear hA A hB B; try simp only [hz]) | (refine gG ?_ ?_ <;> (intro hz; have h := nm hz; try (exfalso; omega)) <;> (have hz := nz hz; try subst hz)) | (rw [if_pos (show _ ∧ _ from ⟨by omega, by omega⟩)]; refine sS ?_) | refine gT ?_ | (clear hN N))
    all_goals (first | exact retZ hQ Tryd.results88 (Desc.re [some 0] rfl) | exact retZN hQ Tryd.results88 (Desc.re [some 0] rfl))
  · rw [if_pos h0] at h
    simp only [Prod.mk.injEq] at h
    obtain ⟨rfl, rfl⟩ := h
    have ct := True.intro
    refine Sp.of_bodyE Tryd.func88 rfl ?_
    intro Q hQ
    simp only [List.replicate, List.length_cons, List.length_nil, Tryd.ntmps88, Nat.reduceAdd, Nat.reduceSub, List.cons_append, List.nil_append, go_sem]
    have hz : True := trivial
    have hy := yieldedV_eq
    have hL := True.intro
    repeat' (first | (refine WPV.seqK ?_; intro N hN) | refine gA ?_ | (refine gR (M := noM) ?_; intro N hN ops hy) | (refine gD (M := noM) ?_; intro N hN; have hy := yieldedV_eq) | (refine WPV.condK ?_; intro A hA B hB) | (refine here ?_; refine sS ?_) | refine Both.mk ?_ ?_ | ((with_reducible refine CallO.gd 104 ?_); refine CallO.toB Tryd.call104 (ct _) ?_) | ((with_reducible refine CallP.gd 104 ?_); refine CallP.toB Tryd.call104 (ct _) ?_) | (refine hN _ ?_; try clear hN N; try clear hy ops) | (refine hA ?_; clear hA A hB B; try simp only [hz]) | (refine hB ?_; clear hA A hB B; try simp only [hz]) | (refine gG ?_ ?_ <;> (intro hz; have h := nm hz; try (exfalso; omega)) <;> (have hz := nz hz; try subst hz)) | (rw [if_pos (show _ ∧ _ from ⟨by omega, by omega⟩)]; refine sS ?_) | refine gT ?_ | (clear hN N))
    all_goals (first | exact retZ hQ Tryd.results88 (Desc.re [some 0] rfl) | exact retZN hQ Tryd.results88 (Desc.re [some 0] rfl))
set_option maxRecDepth 100000 in
set_option maxHeartbeats 1000000 in
theorem swr_s {s s2 : Rst} {a : Wr} (h : writeR s = (a, s2)) (hl : s.1.length ≤ 1000000000) :
    Sp Tryd.prog K 89 [.ptr 0 0] [rdP s] fun u hh => u = wrV a ∧ hh = [rdP s2] := by
  unfold writeR at h
  obtain ⟨k, s1, h1⟩ : ∃ k s1, numR s 64 1 = (k, s1) := ⟨_, _, rfl⟩
  rw [h1] at h
  dsimp only at h
  obtain ⟨t, s3, h2⟩ : ∃ t s2, textR s1 k = (t, s2) := ⟨_, _, rfl⟩
  rw [h2] at h
  dsimp only at h
  obtain ⟨n, s4, h3⟩ : ∃ n q, numR s3 257 1 = (n, q) := ⟨_, _, rfl⟩
  rw [h3] at h
  dsimp only at h
  obtain ⟨k1, k2⟩ := numR_ok h1
  have k3 := textR_ok h2
  obtain ⟨k4, k5⟩ := numR_ok h3
  have c1 := snum_s (K := K) h1 hl (by omega) (by decide)
  have c2 := stxt_s (K := K) h2 (by omega) (by omega) _ rfl
  have c3 := snum_s (K := K) h3 (by omega) (by omega) (by decide)
  clear h1 h2 h3
  obtain ⟨b, e⟩ := s
  obtain ⟨b1, e1⟩ := s1
  obtain ⟨b3, e3⟩ := s3
  obtain ⟨b4, e4⟩ := s4
  by_cases hn : n = 0
  · rw [if_pos hn] at h
    simp only [Prod.mk.injEq] at h
    obtain ⟨rfl, rfl⟩ := h
    subst hn
    have c4 := True.intro
    refine Sp.of_bodyE Tryd.func89 rfl ?_
    intro Q hQ
    simp only [List.replicate, List.length_cons, List.length_nil, Tryd.ntmps89, Nat.reduceAdd, Nat.reduceSub, List.cons_append, List.nil_append, go_sem]
    have hz : True := trivial
    have hy := yieldedV_eq
    have hL := True.intro
    repeat' (first | (refine WPV.seqK ?_; intro N hN) | refine gA ?_ | (refine gR (M := noM) ?_; intro N hN ops hy) | (refine gD (M := noM) ?_; intro N hN; have hy := yieldedV_eq) | (refine WPV.condK ?_; intro A hA B hB) | (refine here ?_; refine sS ?_) | refine Both.mk ?_ ?_ | ((with_reducible refine CallO.gd 86 ?_); first | refine CallO.frB [0] Tryd.call86 (c1) ?_ | refine CallO.frB [0] Tryd.call86 (c3) ?_) | ((with_reducible refine CallO.gd 129 ?_); first | refine CallO.frB [0] Tryd.call129 (c2) ?_ | refine CallO.frB [0] Tryd.call129 (c4) ?_) | (refine hN _ ?_; try clear hN N; try clear hy ops) | (refine hA ?_; clear hA A hB B; try simp only [hz]) | (refine hB ?_; clear hA A hB B; try simp only [hz]) | (refine gG ?_ ?_ <;> (intro hz; have h := nm hz; try (exfalso; omega)) <;> (have hz := nz hz; try subst hz)) | (rw [if_pos (show _ ∧ _ from ⟨by omega, by omega⟩)]; refine sS ?_) | refine gT ?_ | (clear hN N))
    all_goals (first | exact retZ hQ Tryd.results89 (Desc.re [some 0] rfl) | exact retZN hQ Tryd.results89 (Desc.re [some 0] rfl))
  · rw [if_neg hn] at h
    obtain ⟨v, s5, h4⟩ : ∃ v s5, textR (b4, e4) (n - 1) = (v, s5) := ⟨_, _, rfl⟩
    rw [h4] at h
    simp only [Prod.mk.injEq] at h
    obtain ⟨rfl, rfl⟩ := h
    have c4 := stxt_s (K := K) h4 (by omega) (by omega) ((n : Int) - 1) (by omega)
    obtain ⟨b5, e5⟩ := s5
    clear h4
    refine Sp.of_bodyE Tryd.func89 rfl ?_
    intro Q hQ
    simp only [List.replicate, List.length_cons, List.length_nil, Tryd.ntmps89, Nat.reduceAdd, Nat.reduceSub, List.cons_append, List.nil_append, go_sem]
    have hz : True := trivial
    have hy := yieldedV_eq
    have hL := True.intro
    repeat' (first | (refine WPV.seqK ?_; intro N hN) | refine gA ?_ | (refine gR (M := noM) ?_; intro N hN ops hy) | (refine gD (M := noM) ?_; intro N hN; have hy := yieldedV_eq) | (refine WPV.condK ?_; intro A hA B hB) | (refine here ?_; refine sS ?_) | refine Both.mk ?_ ?_ | ((with_reducible refine CallO.gd 86 ?_); first | refine CallO.frB [0] Tryd.call86 (c1) ?_ | refine CallO.frB [0] Tryd.call86 (c3) ?_) | ((with_reducible refine CallO.gd 129 ?_); first | refine CallO.frB [0] Tryd.call129 (c2) ?_ | refine CallO.frB [0] Tryd.call129 (c4) ?_) | (refine hN _ ?_; try clear hN N; try clear hy ops) | (refine hA ?_; clear hA A hB B; try simp only [hz]) | (refine hB ?_; clear hA A hB B; try simp only [hz]) | (refine gG ?_ ?_ <;> (intro hz; have h := nm hz; try (exfalso; omega)) <;> (have hz := nz hz; try subst hz)) | (rw [if_pos (show _ ∧ _ from ⟨by omega, by omega⟩)]; refine sS ?_) | refine gT ?_ | (clear hN N))
    all_goals (first | exact retZ hQ Tryd.results89 (Desc.re [some 0] rfl) | exact retZN hQ Tryd.results89 (Desc.re [some 0] rfl))
end Go.Proofs.YtgfnpcmehnjopaaDoor
end
section
namespace Go.Proofs.YtgfnpcmehnjopaaDoor
open Go Go.RowKit
set_option linter.unusedVariables false
set_option linter.unusedSimpArgs false
variable {K : Nat → Obj → Prop}
abbrev itE (x : It) (u v : V) : List V := [.sc (.int .i64 x.d), .sc (.int .i64 x.o), .sc (.int .i64 x.n), .sc (.int .i64 x.a), .sc (.int .u32 x.m), .sc (.int .i64 x.c.x), .sc (.int .i64 x.c.y), .sc (.int .i64 x.c.z), u, v]
abbrev nilV : V := .sc (.slice none 0 0)
theorem hasN (hT : TT K) {part : Int} {p : Int → Prop} (ht : Tells part p) (x : It) (hd : 0 ≤ x.d ∧ x.d ≤ 8) [Decidable (p x.d)] (h : List Ho) : Sp Tryd.prog K 52 [.agg (itE x nilV nilV), .sc (.int .i64 part)] h fun u hh => u = .sc (.bool (decide (p x.d))) ∧ hh = h :=
  (hasP hT ht ⟨x.d, x.o, x.n, x.a, x.m, x.c, [], []⟩ hd h).wk (Wk.agg (.same (.same (.same (.same (.same (.same (.same (.same (.null (.null .nil)))))))))) Wk.refl)
theorem hasW (hT : TT K) {part : Int} {p : Int → Prop} (ht : Tells part p) (x : It) (hd : 0 ≤ x.d ∧ x.d ≤ 8) [Decidable (p x.d)] (h : List Ho) : Sp Tryd.prog K 52 [.agg (itE x (.sl 3 (wrl x.w)) nilV), .sc (.int .i64 part)] h fun u hh => u = .sc (.bool (decide (p x.d))) ∧ hh = h :=
  (hasP hT ht ⟨x.d, x.o, x.n, x.a, x.m, x.c, x.w, []⟩ hd h).wk (Wk.agg (.same (.same (.same (.same (.same (.same (.same (.same (.same (.null .nil)))))))))) Wk.refl)
set_option maxRecDepth 100000 in
set_option maxHeartbeats 1000000 in
theorem snumn_s (hT : TT K) {part : Int} {p : Int → Prop} (ht : Tells part p) (x : It) (hd : 0 ≤ x.d ∧ x.d ≤ 8) [Decidable (p x.d)] {s s2 : Rst} {most n : Nat} (h : numIf (p x.d) s most = (n, s2)) (hl : s.1.length ≤ 1000000000) (hb : most < 9223372036854775808) :
    Sp Tryd.prog K 87 [.sc (.int .i64 part), .sc (.int .u64 (most : Int)), .ptr 0 0, .ptr 2 0] [.cells [.ptr 1 0], rdP s, .cells (itE x nilV nilV)] fun u hh => u = .sc (.int .i64 (n : Int)) ∧ hh = [.cells [.ptr 1 0], rdP s2, .cells (itE x nilV nilV)] := by
  have ch := fun h => hasN hT ht x hd h
  unfold numIf at h
  by_cases hp : p x.d
  · rw [if_pos hp] at h
    rw [decide_eq_true hp] at ch
    have cn := snum_s (K := K) h hl hb (by decide)
    have he : s.2 ≠ 0 → n = 0 ∧ s2 = s := fun he => by
      unfold numR at h
      rw [if_pos he] at h
      simp only [Prod.mk.injEq] at h
      exact ⟨h.1.symm, h.2.symm⟩
    obtain ⟨b, e⟩ := s
    obtain ⟨b2, e2⟩ := s2
    clear h
    clear ht
    generalize p x.d = pp at *
    obtain ⟨d, o, n', a, m, ⟨cx, cy, cz⟩, w, k⟩ := x
    dsimp only at *
    by_cases he0 : e = 0
    · subst he0
      clear he
      refine Sp.of_bodyE Tryd.func87 rfl ?_
      intro Q hQ
      simp only [List.replicate, List.length_cons, List.length_nil, Tryd.ntmps87, Nat.reduceAdd, Nat.reduceSub, List.cons_append, List.nil_append, go_sem]
      have hz : True := trivial
      have hy := yieldedV_eq
      have hL := True.intro
      repeat' (first | (refine WPV.seqK ?_; intro N hN) | refine gA ?_ | (refine gR (M := noM) ?_; intro N hN ops hy) | (refine gD (M := noM) ?_; intro N hN; have hy := yieldedV_eq) | (refine WPV.condK ?_; intro A hA B hB) | (refine here ?_; refine sS ?_) | refine Both.mk ?_ ?_ | ((with_reducible refine CallO.gd 52 ?_); refine CallO.toB Tryd.call52 (ch _) ?_) | ((with_reducible refine CallO.gd 86 ?_); refine CallO.frB [1] Tryd.call86 (cn) ?_) | ((with_reducible refine CallP.gd 52 ?_); refine CallP.toB Tryd.call52 (ch _) ?_) | (refine hN _ ?_; try clear hN N; try clear hy ops) | (refine hA ?_; clear hA A hB B; try simp only [hz]) | (refine hB ?_; clear hA A hB B; try simp only [hz]) | (refine gG ?_ ?_ <;> (intro hz; have h := nm hz; try (exfalso; omega)) <;> (have hz := nz hz; try subst hz)) | (rw [if_pos (show _ ∧ _ from ⟨by omega, by omega⟩)]; refine sS ?_) | refine gT ?_ | (clear hN N))
      all_goals (first | exact retZ hQ Tryd.results87 (Desc.refl) | exact retZN hQ Tryd.results87 (Desc.refl))
    · obtain ⟨rfl, h2⟩ := he he0
      simp only [Prod.mk.injEq] at h2
      obtain ⟨rfl, rfl⟩ := h2
      refine Sp.of_bodyE Tryd.func87 rfl ?_
      intro Q hQ
      simp only [List.replicate, List.length_cons, List.length_nil, Tryd.ntmps87, Nat.reduceAdd, Nat.reduceSub, List.cons_append, List.nil_append, go_sem]
      have hz : True := trivial
      have hy := yieldedV_eq
      have hL := True.intro
      repeat' (first | (refine WPV.seqK ?_; intro N hN) | refine gA ?_ | (refine gR (M := noM) ?_; intro N hN ops hy) | (refine gD (M := noM) ?_; intro N hN; have hy := yieldedV_eq) | (refine WPV.condK ?_; intro A hA B hB) | (refine here ?_; refine sS ?_) | refine Both.mk ?_ ?_ | ((with_reducible refine CallO.gd 52 ?_); refine CallO.toB Tryd.call52 (ch _) ?_) | ((with_reducible refine CallO.gd 86 ?_); refine CallO.frB [1] Tryd.call86 (cn) ?_) | ((with_reducible refine CallP.gd 52 ?_); refine CallP.toB Tryd.call52 (ch _) ?_) | (refine hN _ ?_; try clear hN N; try clear hy ops) | (refine hA ?_; clear hA A hB B; try simp only [hz]) | (refine hB ?_; clear hA A hB B; try simp only [hz]) | (refine gG ?_ ?_ <;> (intro hz; have h := nm hz; try (exfalso; omega)) <;> (have hz := nz hz; try subst hz)) | (rw [if_pos (show _ ∧ _ from ⟨by omega, by omega⟩)]; refine sS ?_) | refine gT ?_ | (clear hN N))
      all_goals (first | exact retZ hQ Tryd.results87 (Desc.refl) | exact retZN hQ Tryd.results87 (Desc.refl))
  · rw [if_neg hp] at h
    rw [decide_eq_false hp] at ch
    have cn := True.intro
    simp only [Prod.mk.injEq] at h
    obtain ⟨rfl, rfl⟩ := h
    obtain ⟨b, e⟩ := s
    clear ht
    generalize p x.d = pp at *
    obtain ⟨d, o, n', a, m, ⟨cx, cy, cz⟩, w, k⟩ := x
    dsimp only at *
    refine Sp.of_bodyE Tryd.func87 rfl ?_
    intro Q hQ
    simp only [List.replicate, List.length_cons, List.length_nil, Tryd.ntmps87, Nat.reduceAdd, Nat.reduceSub, List.cons_append, List.nil_append, go_sem]
    have hz : True := trivial
    have hy := yieldedV_eq
    have hL := True.intro
    repeat' (first | (refine WPV.seqK ?_; intro N hN) | refine gA ?_ | (refine gR (M := noM) ?_; intro N hN ops hy) | (refine gD (M := noM) ?_; intro N hN; have hy := yieldedV_eq) | (refine WPV.condK ?_; intro A hA B hB) | (refine here ?_; refine sS ?_) | refine Both.mk ?_ ?_ | ((with_reducible refine CallO.gd 52 ?_); refine CallO.toB Tryd.call52 (ch _) ?_) | ((with_reducible refine CallO.gd 86 ?_); refine CallO.frB [1] Tryd.call86 (cn) ?_) | ((with_reducible refine CallP.gd 52 ?_); refine CallP.toB Tryd.call52 (ch _) ?_) | (refine hN _ ?_; try clear hN N; try clear hy ops) | (refine hA ?_; clear hA A hB B; try simp only [hz]) | (refine hB ?_; clear hA A hB B; try simp only [hz]) | (refine gG ?_ ?_ <;> (intro hz; have h := nm hz; try (exfalso; omega)) <;> (have hz := nz hz; try subst hz)) | (rw [if_pos (show _ ∧ _ from ⟨by omega, by omega⟩)]; refine sS ?_) | refine gT ?_ | (clear hN N))
    all_goals (first | exact retZ hQ Tryd.results87 (Desc.refl) | exact retZN hQ Tryd.results87 (Desc.refl))
set_option maxRecDepth 100000 in
set_option maxHeartbeats 1000000 in
theorem snumw_s (hT : TT K) (x : It) (hd : 0 ≤ x.d ∧ x.d ≤ 8) {s s2 : Rst} {n : Nat} (h : numIf (x.d = 7) s 4 = (n, s2)) (hl : s.1.length ≤ 1000000000) :
    Sp Tryd.prog K 87 [.sc (.int .i64 128), .sc (.int .u64 4), .ptr 0 0, .ptr 2 0] [.cells [.ptr 1 0], rdP s, .cells (itE x (.sl 3 (wrl x.w)) nilV)] fun u hh => u = .sc (.int .i64 (n : Int)) ∧ hh = [.cells [.ptr 1 0], rdP s2, .cells (itE x (.sl 3 (wrl x.w)) nilV)] := by
  have ch := fun h => hasW hT tells_128 x hd h
  unfold numIf at h
  by_cases hp : x.d = 7
  · rw [if_pos hp] at h
    rw [decide_eq_true hp] at ch
    have cn := snum_s (K := K) h hl (by omega) (by decide)
    have he : s.2 ≠ 0 → n = 0 ∧ s2 = s := fun he => by
      unfold numR at h
      rw [if_pos he] at h
      simp only [Prod.mk.injEq] at h
      exact ⟨h.1.symm, h.2.symm⟩
    obtain ⟨b, e⟩ := s
    obtain ⟨b2, e2⟩ := s2
    clear h
    obtain ⟨d, o, n', a, m, ⟨cx, cy, cz⟩, w, k⟩ := x
    dsimp only at *
    by_cases he0 : e = 0
    · subst he0
      clear he
      refine Sp.of_bodyE Tryd.func87 rfl ?_
      intro Q hQ
      simp only [List.replicate, List.length_cons, List.length_nil, Tryd.ntmps87, Nat.reduceAdd, Nat.reduceSub, List.cons_append, List.nil_append, go_sem]
      have hz : True := trivial
      have hy := yieldedV_eq
      have hL := True.intro
      repeat' (first | (refine WPV.seqK ?_; intro N hN) | refine gA ?_ | (refine gR (M := noM) ?_; intro N hN ops hy) | (refine gD (M := noM) ?_; intro N hN; have hy := yieldedV_eq) | (refine WPV.condK ?_; intro A hA B hB) | (refine here ?_; refine sS ?_) | refine Both.mk ?_ ?_ | ((with_reducible refine CallO.gd 52 ?_); refine CallO.toB Tryd.call52 (ch _) ?_) | ((with_reducible refine CallO.gd 86 ?_); refine CallO.frB [1] Tryd.call86 (cn) ?_) | ((with_reducible refine CallP.gd 52 ?_); refine CallP.toB Tryd.call52 (ch _) ?_) | (refine hN _ ?_; try clear hN N; try clear hy ops) | (refine hA ?_; clear hA A hB B; try simp only [hz]) | (refine hB ?_; clear hA A hB B; try simp only [hz]) | (refine gG ?_ ?_ <;> (intro hz; have h := nm hz; try (exfalso; omega)) <;> (have hz := nz hz; try subst hz)) | (rw [if_pos (show _ ∧ _ from ⟨by omega, by omega⟩)]; refine sS ?_) | refine gT ?_ | (clear hN N))
      all_goals (first | exact retZ hQ Tryd.results87 (Desc.refl) | exact retZN hQ Tryd.results87 (Desc.refl))
    · obtain ⟨rfl, h2⟩ := he he0
      simp only [Prod.mk.injEq] at h2
      obtain ⟨rfl, rfl⟩ := h2
      refine Sp.of_bodyE Tryd.func87 rfl ?_
      intro Q hQ
      simp only [List.replicate, List.length_cons, List.length_nil, Tryd.ntmps87, Nat.reduceAdd, Nat.reduceSub, List.cons_append, List.nil_append, go_sem]
      have hz : True := trivial
      have hy := yieldedV_eq
      have hL := True.intro
      repeat' (first | (refine WPV.seqK ?_; intro N hN) | refine gA ?_ | (refine gR (M := noM) ?_; intro N hN ops hy) | (refine gD (M := noM) ?_; intro N hN; have hy := yieldedV_eq) | (refine WPV.condK ?_; intro A hA B hB) | (refine here ?_; refine sS ?_) | refine Both.mk ?_ ?_ | ((with_reducible refine CallO.gd 52 ?_); refine CallO.toB Tryd.call52 (ch _) ?_) | ((with_reducible refine CallO.gd 86 ?_); refine CallO.frB [1] Tryd.call86 (cn) ?_) | ((with_reducible refine CallP.gd 52 ?_); refine CallP.toB Tryd.call52 (ch _) ?_) | (refine hN _ ?_; try clear hN N; try clear hy ops) | (refine hA ?_; clear hA A hB B; try simp only [hz]) | (refine hB ?_; clear hA A hB B; try simp only [hz]) | (refine gG ?_ ?_ <;> (intro hz; have h := nm hz; try (exfalso; omega)) <;> (have hz := nz hz; try subst hz)) | (rw [if_pos (show _ ∧ _ from ⟨by omega, by omega⟩)]; refine sS ?_) | refine gT ?_ | (clear hN N))
      all_goals (first | exact retZ hQ Tryd.results87 (Desc.refl) | exact retZN hQ Tryd.results87 (Desc.refl))
  · rw [if_neg hp] at h
    rw [decide_eq_false hp] at ch
    have cn := True.intro
    simp only [Prod.mk.injEq] at h
    obtain ⟨rfl, rfl⟩ := h
    obtain ⟨b, e⟩ := s
    obtain ⟨d, o, n', a, m, ⟨cx, cy, cz⟩, w, k⟩ := x
    dsimp only at *
    refine Sp.of_bodyE Tryd.func87 rfl ?_
    intro Q hQ
    simp only [List.replicate, List.length_cons, List.length_nil, Tryd.ntmps87, Nat.reduceAdd, Nat.reduceSub, List.cons_append, List.nil_append, go_sem]
    have hz : True := trivial
    have hy := yieldedV_eq
    have hL := True.intro
    repeat' (first | (refine WPV.seqK ?_; intro N hN) | refine gA ?_ | (refine gR (M := noM) ?_; intro N hN ops hy) | (refine gD (M := noM) ?_; intro N hN; have hy := yieldedV_eq) | (refine WPV.condK ?_; intro A hA B hB) | (refine here ?_; refine sS ?_) | refine Both.mk ?_ ?_ | ((with_reducible refine CallO.gd 52 ?_); refine CallO.toB Tryd.call52 (ch _) ?_) | ((with_reducible refine CallO.gd 86 ?_); refine CallO.frB [1] Tryd.call86 (cn) ?_) | ((with_reducible refine CallP.gd 52 ?_); refine CallP.toB Tryd.call52 (ch _) ?_) | (refine hN _ ?_; try clear hN N; try clear hy ops) | (refine hA ?_; clear hA A hB B; try simp only [hz]) | (refine hB ?_; clear hA A hB B; try simp only [hz]) | (refine gG ?_ ?_ <;> (intro hz; have h := nm hz; try (exfalso; omega)) <;> (have hz := nz hz; try subst hz)) | (rw [if_pos (show _ ∧ _ from ⟨by omega, by omega⟩)]; refine sS ?_) | refine gT ?_ | (clear hN N))
    all_goals (first | exact retZ hQ Tryd.results87 (Desc.refl) | exact retZN hQ Tryd.results87 (Desc.refl))
set_option maxRecDepth 100000 in
set_option maxHeartbeats 1000000 in
theorem snumk_s (hT : TT K) (x : It) (hd : x.d = 7) {s s2 : Rst} {n : Nat} (h : numR s 4611686018427387903 1 = (n, s2)) (hl : s.1.length ≤ 1000000000) :
    Sp Tryd.prog K 87 [.sc (.int .i64 128), .sc (.int .u64 4611686018427387903), .ptr 0 0, .ptr 2 0] [.cells [.ptr 1 0], rdP s, .cells [.sc (.int .i64 x.d), .sc (.int .i64 x.o), .sc (.int .i64 x.n), .sc (.int .i64 x.a), .sc (.int .u32 x.m), .sc (.int .i64 x.c.x), .sc (.int .i64 x.c.y), .sc (.int .i64 x.c.z), .sl 3 (wrl x.w), .own 1 (il x.k) 3], .tail] fun u hh =>
      u = .sc (.int .i64 (n : Int)) ∧ hh = [.cells [.ptr 1 0], rdP s2, .cells [.sc (.int .i64 x.d), .sc (.int .i64 x.o), .sc (.int .i64 x.n), .sc (.int .i64 x.a), .sc (.int .u32 x.m), .sc (.int .i64 x.c.x), .sc (.int .i64 x.c.y), .sc (.int .i64 x.c.z), .sl 3 (wrl x.w), .own 1 (il x.k) 3], .tail] := by
  have ch := fun h => hasP hT tells_128 x (by omega) h
  rw [decide_eq_true hd] at ch
  have cn := snum_s (K := K) h hl (by omega) (by decide)
  have he : s.2 ≠ 0 → n = 0 ∧ s2 = s := fun he => by
    unfold numR at h
    rw [if_pos he] at h
    simp only [Prod.mk.injEq] at h
    exact ⟨h.1.symm, h.2.symm⟩
  obtain ⟨b, e⟩ := s
  obtain ⟨b2, e2⟩ := s2
  clear h
  obtain ⟨d, o, n', a, m, ⟨cx, cy, cz⟩, w, k⟩ := x
  dsimp only at *
  by_cases he0 : e = 0
  · subst he0
    clear he
    refine Sp.of_bodyE Tryd.func87 rfl ?_
    intro Q hQ
    simp only [List.replicate, List.length_cons, List.length_nil, Tryd.ntmps87, Nat.reduceAdd, Nat.reduceSub, List.cons_append, List.nil_append, go_sem]
    have hz : True := trivial
    have hy := yieldedV_eq
    have hL := True.intro
    repeat' (first | (refine WPV.seqK ?_; intro N hN) | refine gA ?_ | (refine gR (M := noM) ?_; intro N hN ops hy) | (refine gD (M := noM) ?_; intro N hN; have hy := yieldedV_eq) | (refine WPV.condK ?_; intro A hA B hB) | (refine here ?_; refine sS ?_) | refine Both.mk ?_ ?_ | ((with_reducible refine CallO.gd 52 ?_); refine CallO.toB Tryd.call52 (ch _) ?_) | ((with_reducible refine CallO.gd 86 ?_); refine CallO.frB [1] Tryd.call86 (cn) ?_) | ((with_reducible refine CallP.gd 52 ?_); refine CallP.toB Tryd.call52 (ch _) ?_) | (refine hN _ ?_; try clear hN N; try clear hy ops) | (refine hA ?_; clear hA A hB B; try simp only [hz]) | (refine hB ?_; clear hA A hB B; try simp only [hz]) | (refine gG ?_ ?_ <;> (intro hz; have h := nm hz; try (exfalso; omega)) <;> (have hz := nz hz; try subst hz)) | (rw [if_pos (show _ ∧ _ from ⟨by omega, by omega⟩)]; refine sS ?_) | refine gT ?_ | (clear hN N))
    all_goals (first | exact retZ hQ Tryd.results87 (Desc.refl) | exact retZN hQ Tryd.results87 (Desc.refl))
  · obtain ⟨rfl, h2⟩ := he he0
    simp only [Prod.mk.injEq] at h2
    obtain ⟨rfl, rfl⟩ := h2
    refine Sp.of_bodyE Tryd.func87 rfl ?_
    intro Q hQ
    simp only [List.replicate, List.length_cons, List.length_nil, Tryd.ntmps87, Nat.reduceAdd, Nat.reduceSub, List.cons_append, List.nil_append, go_sem]
    have hz : True := trivial
    have hy := yieldedV_eq
    have hL := True.intro
    repeat' (first | (refine WPV.seqK ?_; intro N hN) | refine gA ?_ | (refine gR (M := noM) ?_; intro N hN ops hy) | (refine gD (M := noM) ?_; intro N hN; have hy := yieldedV_eq) | (refine WPV.condK ?_; intro A hA B hB) | (refine here ?_; refine sS ?_) | refine Both.mk ?_ ?_ | ((with_reducible refine CallO.gd 52 ?_); refine CallO.toB Tryd.call52 (ch _) ?_) | ((with_reducible refine CallO.gd 86 ?_); refine CallO.frB [1] Tryd.call86 (cn) ?_) | ((with_reducible refine CallP.gd 52 ?_); refine CallP.toB Tryd.call52 (ch _) ?_) | (refine hN _ ?_; try clear hN N; try clear hy ops) | (refine hA ?_; clear hA A hB B; try simp only [hz]) | (refine hB ?_; clear hA A hB B; try simp only [hz]) | (refine gG ?_ ?_ <;> (intro hz; have h := nm hz; try (exfalso; omega)) <;> (have hz := nz hz; try subst hz)) | (rw [if_pos (show _ ∧ _ from ⟨by omega, by omega⟩)]; refine sS ?_) | refine gT ?_ | (clear hN N))
    all_goals (first | exact retZ hQ Tryd.results87 (Desc.refl) | exact retZN hQ Tryd.results87 (Desc.refl))
end Go.Proofs.YtgfnpcmehnjopaaDoor
end
